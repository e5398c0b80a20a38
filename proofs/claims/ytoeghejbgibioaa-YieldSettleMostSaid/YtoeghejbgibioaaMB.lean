/- The greatest flow by paths: the walk. -/
import Derived.Test.YtoeghejbgibioaaMA
import Derived.Test.YtoeghejbgibioaaQ3
namespace Go.Proofs.Ytoeghejbgibioaa
open Go Go.RowKit
set_option linter.unusedVariables false
set_option linter.unusedSimpArgs false
set_option maxRecDepth 100000
set_option maxHeartbeats 4000000
attribute [local irreducible] ResLe AVle ArgLe ArgP EntLe Dle ResH ArgQ strEq strLt

def flD (G : Env) (n k a _ : Nat) : D := if a < k then .val (.slice (addrOf (G a).1) n (G a).2) else .val (.slice none 0 0)
def flE (G : Env) (n a _ : Nat) : D := .val (.slice (addrOf (G a).1) n (G a).2)
theorem flD_set {G : Env} {n k : Nat} {b : Option Nat × Nat} {z : Nat} (hz : z = k) (i j : Nat) (hj : j < 1) : Dle (setF (flD G n k) z 0 [.val (.slice (addrOf b.1) n b.2)] i j) (flD (upd G k b) n (k + 1) i j) := by
  subst hz
  obtain rfl : j = 0 := by omega
  rw [setF_eq]
  unfold flD
  by_cases h : i = z
  · subst h
    rw [if_pos ⟨rfl, by omega, by simp⟩, if_pos (by omega), upd_same]
    exact Dle.refl _
  · rw [if_neg (fun q => h q.1)]
    by_cases h' : i < z
    · rw [if_pos h', if_pos (by omega), upd_ne _ h]; exact Dle.refl _
    · rw [if_neg h', if_neg (by omega)]; exact Dle.refl _
theorem rep0 (n i : Nat) : (List.replicate n (0 : Int)).getD i 0 = 0 := by
  rw [List.getD_eq_getElem?_getD, List.getElem?_replicate]
  split <;> rfl
theorem rowI_set {F : Fw} {x k z : Nat} {d y : Int} (hz : z = k) (hy : y = F x k + d) (b : Nat) : Dle (setF (rowI (F x)) z 0 [.val (.int .i64 y)] b 0) (.val (.int .i64 (updF F x k d x b))) := by
  subst hz hy
  rw [setF_eq]
  unfold updF rowI
  by_cases h : b = z
  · subst h
    rw [if_pos ⟨rfl, Nat.le_refl _, by simp⟩, if_pos ⟨rfl, rfl⟩]
    exact Dle.refl _
  · rw [if_neg (fun q => h q.1), if_neg (fun q => h q.2)]
    exact Dle.refl _
theorem updF_ne {F : Fw} {x k : Nat} {d : Int} {a : Nat} (h : a ≠ x) : updF F x k d a = F a := by
  funext b
  unfold updF
  rw [if_neg (fun q => h q.1)]
def mx24 : List (Nat × (List Nat × List (Option Nat × Option Nat))) := [(60, [0, 0, 3, 7, 0, 0, 0, 96, 224, 0, 992, 2016, 0, 8160, 16383, 32767], [(some 271, none), (some 272, none), (some 273, none), (some 274, none), (some 275, none), (some 276, none), (some 277, none), (some 278, none), (some 279, none), (some 280, none), (some 281, none), (some 282, none), (some 283, none), (some 284, none), (some 285, none), (none, some 900001)]), (64, [0, 0, 3, 7, 0, 0, 0, 96, 224, 0, 992, 2016, 0, 8160, 16383, 32767], [(some 305, none), (some 306, none), (some 307, none), (some 308, none), (some 309, none), (some 310, none), (some 311, none), (some 312, none), (some 313, none), (some 314, none), (some 315, none), (some 316, none), (some 317, none), (some 318, none), (some 319, none), (none, some 900001)])]
abbrev gh (is es : List Dt) (G : Env) (F : Fw) : Gh := ⟨is.length, es.length, G, F⟩
theorem most_t (is es : List Dt) (af bf : Int) (l1 : is.length ≤ 64) (l2 : es.length ≤ 64) (h1 : dtErr is = 0) (h2 : dtErr es = 0) (haf : 0 ≤ af ∧ af ≤ 36524) (hbf : 0 ≤ bf ∧ bf ≤ 36524) {L : List Mt} (hL : Best is es af bf L) :
    ACalls XX 24 [.dat (dtD is), .dat (dtD es), iA af, iA bf] (iA (totM L)) := by
  refine ACalls.ofM (n := Try.f24.ntmps) XX_ok Try.func24 rfl (by kernel_rfl) rfl rfl (Nat.le_of_ble_eq_true rfl) 3 ⟨0, es.length, fun _ => (none, 0), fun _ _ => 0⟩ rfl ?_
  refine WM.seq (WM.ofW ?_)
  (repeat' (first | ((first | refine Zg ?_ | refine Zt dr24 ?_ | refine Zn ?_ | refine Zc ?_ | refine Zu fun b hb => ?_); conv => whnf) | (refine Zb (fun h => ?_) (fun h => ?_) <;> first | exact Zx | (conv => whnf))))
  refine WM.seq (WM.ofW ?_)
  (repeat' (first | ((first | refine Zg ?_ | refine Zt dr24 ?_ | refine Zn ?_ | refine Zc ?_ | refine Zu fun b hb => ?_); conv => whnf) | (refine Zb (fun h => ?_) (fun h => ?_) <;> first | exact Zx | (conv => whnf))))
  refine WM.seq (WM.ofW ?_)
  (repeat' (first | ((first | refine Zg ?_ | refine Zt dr24 ?_ | refine Zn ?_ | refine Zc ?_ | refine Zu fun b hb => ?_); conv => whnf) | (refine Zb (fun h => ?_) (fun h => ?_) <;> first | exact Zx | (conv => whnf))))
  refine (W.loopK (ι := Nat) [0, 1, 2, 3, 8, 9] [] (fun k => [(10, iA k)]) (fun k => [(33, .row 3 1 is.length (opF is k))]) (fun k => k ≤ is.length) (fun k => is.length - k) 0 (Nat.zero_le _) ?_ ?_ ?_)
  · exact Yz
  · (repeat' (first | exact Yq | refine ⟨_, rfl, Yb ?_, rfl⟩ | refine ⟨_, rfl, Yw (by first | rfl | omega) ?_, rfl⟩ | refine And.intro ?_ ?_))
    intro i hi j hj
    unfold opF
    rw [if_neg (by omega)]
    obtain rfl : j = 0 := by omega
    exact Dle.refl _
  conv => whnf
  intro k hk
  by_cases hk' : k < is.length
  · (repeat' (first | ((first | refine Zg ?_ | refine Zt dr24 ?_ | refine Zn ?_ | refine Zc ?_ | refine Zu fun b hb => ?_); conv => whnf) | (refine Zb (fun h => ?_) (fun h => ?_) <;> first | exact Zx | (conv => whnf))))
    all_goals (try dsimp only [Int.toNat_natCast] at *)
    (repeat' (first | ((first | refine Zg ?_ | refine Zt dr24 ?_ | refine Zn ?_ | refine Zc ?_ | refine Zu fun b hb => ?_); conv => whnf) | (refine Zb (fun h => ?_) (fun h => ?_) <;> first | exact Zx | (conv => whnf))))
    all_goals (try dsimp only [Int.toNat_natCast] at *)
    all_goals first | (exfalso; omega) | skip
    refine ⟨k + 1, by omega, by omega, ?_, ?_, ?_, ?_⟩
    all_goals (repeat' (first | exact Yq | refine ⟨_, rfl, Yb ?_, rfl⟩ | refine ⟨_, rfl, Yw (by first | rfl | omega) ?_, rfl⟩ | refine And.intro ?_ ?_))
    intro i hi j hj
    simp only [Nat.zero_add]
    exact opF_set is k i j hj
  obtain rfl : k = is.length := by omega
  (repeat' (first | ((first | refine Zg ?_ | refine Zt dr24 ?_ | refine Zn ?_ | refine Zc ?_ | refine Zu fun b hb => ?_); conv => whnf) | (refine Zb (fun h => ?_) (fun h => ?_) <;> first | exact Zx | (conv => whnf))))
  all_goals first | (exfalso; omega) | skip
  refine WM.seq (WM.ofW ?_)
  (repeat' (first | ((first | refine Zg ?_ | refine Zt dr24 ?_ | refine Zn ?_ | refine Zc ?_ | refine Zu fun b hb => ?_); conv => whnf) | (refine Zb (fun h => ?_) (fun h => ?_) <;> first | exact Zx | (conv => whnf))))
  refine WM.seq (WM.ofW ?_)
  (repeat' (first | ((first | refine Zg ?_ | refine Zt dr24 ?_ | refine Zn ?_ | refine Zc ?_ | refine Zu fun b hb => ?_); conv => whnf) | (refine Zb (fun h => ?_) (fun h => ?_) <;> first | exact Zx | (conv => whnf))))
  refine (W.loopK (ι := Nat) [0, 1, 2, 3, 8, 9, 11] [33] (fun k => [(12, iA k)]) (fun k => [(50, .row 3 1 es.length (opF es k))]) (fun k => k ≤ es.length) (fun k => es.length - k) 0 (Nat.zero_le _) ?_ ?_ ?_)
  · exact Yz
  · (repeat' (first | exact Yq | refine ⟨_, rfl, Yb ?_, rfl⟩ | refine ⟨_, rfl, Yw (by first | rfl | omega) ?_, rfl⟩ | refine And.intro ?_ ?_))
    intro i hi j hj
    unfold opF
    rw [if_neg (by omega)]
    obtain rfl : j = 0 := by omega
    exact Dle.refl _
  conv => whnf
  intro k hk
  by_cases hk' : k < es.length
  · (repeat' (first | ((first | refine Zg ?_ | refine Zt dr24 ?_ | refine Zn ?_ | refine Zc ?_ | refine Zu fun b hb => ?_); conv => whnf) | (refine Zb (fun h => ?_) (fun h => ?_) <;> first | exact Zx | (conv => whnf))))
    all_goals (try dsimp only [Int.toNat_natCast] at *)
    (repeat' (first | ((first | refine Zg ?_ | refine Zt dr24 ?_ | refine Zn ?_ | refine Zc ?_ | refine Zu fun b hb => ?_); conv => whnf) | (refine Zb (fun h => ?_) (fun h => ?_) <;> first | exact Zx | (conv => whnf))))
    all_goals (try dsimp only [Int.toNat_natCast] at *)
    all_goals first | (exfalso; omega) | skip
    refine ⟨k + 1, by omega, by omega, ?_, ?_, ?_, ?_⟩
    all_goals (repeat' (first | exact Yq | refine ⟨_, rfl, Yb ?_, rfl⟩ | refine ⟨_, rfl, Yw (by first | rfl | omega) ?_, rfl⟩ | refine And.intro ?_ ?_))
    intro i hi j hj
    simp only [Nat.zero_add]
    exact opF_set es k i j hj
  obtain rfl : k = es.length := by omega
  (repeat' (first | ((first | refine Zg ?_ | refine Zt dr24 ?_ | refine Zn ?_ | refine Zc ?_ | refine Zu fun b hb => ?_); conv => whnf) | (refine Zb (fun h => ?_) (fun h => ?_) <;> first | exact Zx | (conv => whnf))))
  all_goals first | (exfalso; omega) | skip
  refine WM.seq (WM.ofW ?_)
  (repeat' (first | ((first | refine Zg ?_ | refine Zt dr24 ?_ | refine Zn ?_ | refine Zc ?_ | refine Zu fun b hb => ?_); conv => whnf) | (refine Zb (fun h => ?_) (fun h => ?_) <;> first | exact Zx | (conv => whnf))))
  refine WM.seq ?_
  refine WM.seq (WM.ofW ?_)
  (repeat' (first | ((first | refine Zg ?_ | refine Zt dr24 ?_ | refine Zn ?_ | refine Zc ?_ | refine Zu fun b hb => ?_); conv => whnf) | (refine Zb (fun h => ?_) (fun h => ?_) <;> first | exact Zx | (conv => whnf))))
  refine WM.block ?_
  refine WM.loopK (ι := Nat × Env) [0, 1, 2, 3, 8, 9, 11, 13] [33, 50] (fun k => [(14, iA k.1)]) (fun k => [(67, .row 22 1 is.length (flD k.2 es.length k.1))]) (fun k => ⟨k.1, es.length, k.2, fun _ _ => 0⟩) (fun k => k.1 ≤ is.length) (fun k => is.length - k.1) (0, fun _ => (none, 0)) (Nat.zero_le _) rfl ?_ ?_ ?_
  · exact Yz
  · (repeat' (first | exact Yq | refine ⟨_, rfl, Yb ?_, rfl⟩ | refine ⟨_, rfl, Yw (by first | rfl | omega) ?_, rfl⟩ | refine And.intro ?_ ?_))
    intro i hi j hj
    unfold flD
    rw [if_neg (by omega)]
    obtain rfl : j = 0 := by omega
    exact Dle.refl _
  conv => whnf
  rintro ⟨k, G⟩ hk
  have hk : k ≤ is.length := hk
  by_cases hk' : k < is.length
  · refine WM.seq (WM.ofW ?_)
    (repeat' (first | ((first | refine Zg ?_ | refine Zt dr24 ?_ | refine Zn ?_ | refine Zc ?_ | refine Zu fun b hb => ?_); conv => whnf) | (refine Zb (fun h => ?_) (fun h => ?_) <;> first | exact Zx | (conv => whnf))))
    all_goals first | (exfalso; omega) | skip
    refine WM.seq ?_
    refine WM.block ?_
    refine WM.layK 5 78 78 ?_
    conv => whnf
    (repeat' (first | ((first | refine Zg ?_ | refine Zt dr24 ?_ | refine Zn ?_ | refine Zc ?_ | refine Zu fun b hb => ?_); conv => whnf) | (refine Zb (fun h => ?_) (fun h => ?_) <;> first | exact Zx | (conv => whnf))))
    refine ⟨rfl, ⟨_, rfl, fun b hb => Dle.refl _⟩, fun b => ?_⟩
    conv => whnf
    (repeat' (first | ((first | refine Zg ?_ | refine Zt dr24 ?_ | refine Zn ?_ | refine Zc ?_ | refine Zu fun b hb => ?_); conv => whnf) | (refine Zb (fun h => ?_) (fun h => ?_) <;> first | exact Zx | (conv => whnf))))
    all_goals (try dsimp only [Int.toNat_natCast] at *)
    (repeat' (first | ((first | refine Zg ?_ | refine Zt dr24 ?_ | refine Zn ?_ | refine Zc ?_ | refine Zu fun b hb => ?_); conv => whnf) | (refine Zb (fun h => ?_) (fun h => ?_) <;> first | exact Zx | (conv => whnf))))
    refine WM.ofW ?_
    (repeat' (first | ((first | refine Zg ?_ | refine Zt dr24 ?_ | refine Zn ?_ | refine Zc ?_ | refine Zu fun b hb => ?_); conv => whnf) | (refine Zb (fun h => ?_) (fun h => ?_) <;> first | exact Zx | (conv => whnf))))
    refine ⟨(k + 1, upd G k b), by simp only; omega, by simp only; omega, rfl, ?_, ?_, ?_, ?_⟩
    all_goals (repeat' (first | exact Yq | refine ⟨_, rfl, Yb ?_, rfl⟩ | refine ⟨_, rfl, Yw (by first | rfl | omega) ?_, rfl⟩ | refine And.intro ?_ ?_))
    intro i hi j hj
    exact flD_set (by omega) i j hj
  obtain rfl : k = is.length := by omega
  refine WM.seq (WM.ofW ?_)
  (repeat' (first | ((first | refine Zg ?_ | refine Zt dr24 ?_ | refine Zn ?_ | refine Zc ?_ | refine Zu fun b hb => ?_); conv => whnf) | (refine Zb (fun h => ?_) (fun h => ?_) <;> first | exact Zx | (conv => whnf))))
  all_goals first | (exfalso; omega) | skip
  refine WM.seq (WM.ofW ?_)
  (repeat' (first | ((first | refine Zg ?_ | refine Zt dr24 ?_ | refine Zn ?_ | refine Zc ?_ | refine Zu fun b hb => ?_); conv => whnf) | (refine Zb (fun h => ?_) (fun h => ?_) <;> first | exact Zx | (conv => whnf))))
  refine WM.block ?_
  refine WM.loopK (ι := MS × Int) [0, 1, 2, 3, 8, 9, 11, 13] [] (fun s => [(15, iA s.2)]) (fun s => [(33, .row 3 1 is.length (rowF iE s.1.hv)), (50, .row 3 1 es.length (rowF iE s.1.lv)), (67, .row 22 1 is.length (flE G es.length))]) (fun s => gh is es G s.1.F) (fun s => MOk is es af bf s.1 s.2) (fun s => (is.length * 1000000000 - s.2).toNat) (⟨is.map Dt.q, es.map Dt.q, fun _ _ => 0⟩, 0) (MOk.zero h1 h2) rfl ?_ ?_ ?_
  · exact Yz
  · (repeat' (first | exact Yq | refine ⟨_, rfl, Yb ?_, rfl⟩ | refine ⟨_, rfl, Yw (by first | rfl | omega) ?_, rfl⟩ | refine And.intro ?_ ?_))
    · intro i hi j hj
      exact Dle.of_eq (opF_end is i j hi)
    · intro i hi j hj
      exact Dle.of_eq (opF_end es i j hi)
    · intro i hi j hj
      unfold flD flE
      rw [if_pos hi]
      exact Dle.refl _
  conv => whnf
  rintro ⟨s, T⟩ hM
  have hM : MOk is es af bf s T := hM
  refine WM.block ?_
  refine WM.seq (WM.ofW ?_)
  (repeat' (first | ((first | refine Zg ?_ | refine Zt dr24 ?_ | refine Zn ?_ | refine Zc ?_ | refine Zu fun b hb => ?_); conv => whnf) | (refine Zb (fun h => ?_) (fun h => ?_) <;> first | exact Zx | (conv => whnf))))
  refine WM.seq (WM.ofW ?_)
  (repeat' (first | ((first | refine Zg ?_ | refine Zt dr24 ?_ | refine Zn ?_ | refine Zc ?_ | refine Zu fun b hb => ?_); conv => whnf) | (refine Zb (fun h => ?_) (fun h => ?_) <;> first | exact Zx | (conv => whnf))))
  refine WM.seq (WM.ofW ?_)
  (repeat' (first | ((first | refine Zg ?_ | refine Zt dr24 ?_ | refine Zn ?_ | refine Zc ?_ | refine Zu fun b hb => ?_); conv => whnf) | (refine Zb (fun h => ?_) (fun h => ?_) <;> first | exact Zx | (conv => whnf))))
  refine WM.seq (WM.ofW ?_)
  (repeat' (first | ((first | refine Zg ?_ | refine Zt dr24 ?_ | refine Zn ?_ | refine Zc ?_ | refine Zu fun b hb => ?_); conv => whnf) | (refine Zb (fun h => ?_) (fun h => ?_) <;> first | exact Zx | (conv => whnf))))
  refine W.adopt 18 4000 3 1 (rowF iE []) rfl rfl rfl rfl ?_
  conv => whnf
  refine W.loopK (ι := Nat × List Int × List Int) [0, 1, 2, 3, 8, 9, 11, 13, 15, 16, 17] [33, 50, 67] (fun x => [(19, iA x.1), (18, .own 4000 1 0 x.2.2.length)]) (fun x => [(82, .row 3 1 is.length (rowF iE x.2.1)), (85, .row 3 1 es.length (rowF iE (List.replicate es.length 0))), (4000, .row 3 1 x.2.2.length (rowF iE x.2.2))])
    (fun x => x.1 ≤ is.length ∧ BOk is es af bf s x.2.1 (List.replicate es.length 0) x.2.2 ∧ (∀ i, i < x.1 → 0 < s.hv.getD i 0 → x.2.1.getD i 0 ≠ 0) ∧ ∀ i, x.1 ≤ i → x.2.1.getD i 0 = 0) (fun x => is.length - x.1) (0, List.replicate is.length 0, []) ⟨Nat.zero_le _, BOk.nil s, fun i hi => absurd hi (Nat.not_lt_zero _), fun i _ => rep0 _ _⟩ ?_ ?_ ?_
  · exact Yz
  · (repeat' (first | exact Yq | refine ⟨_, rfl, Yb ?_, rfl⟩ | refine ⟨_, rfl, Yw (by first | rfl | omega) ?_, rfl⟩ | refine And.intro ?_ ?_))
    · exact row_nil _ fun _ => rfl
    · exact row_nil _ fun _ => rfl
  conv => whnf
  rintro ⟨k, fI, qu⟩ ⟨hk, hB, hA, h0⟩
  simp only at hk hB hA h0
  have hql := hB.len
  have hil := hB.il
  by_cases hk' : k < is.length
  · (repeat' (first | ((first | refine Zg ?_ | refine Zt dr24 ?_ | refine Zn ?_ | refine Zc ?_ | refine Zu fun b hb => ?_); conv => whnf) | (refine Zb (fun h => ?_) (fun h => ?_) <;> first | exact Zx | (conv => whnf))))
    all_goals (try dsimp only [Int.toNat_natCast] at *)
    (repeat' (first | ((first | refine Zg ?_ | refine Zt dr24 ?_ | refine Zn ?_ | refine Zc ?_ | refine Zu fun b hb => ?_); conv => whnf) | (refine Zb (fun h => ?_) (fun h => ?_) <;> first | exact Zx | (conv => whnf))))
    all_goals (try dsimp only [Int.toNat_natCast] at *)
    all_goals first | (exfalso; omega) | skip
    · have h : 0 < s.hv.getD k 0 := by rw [Nat.zero_add] at h; exact h
      refine ⟨(k + 1, fI.set k (-1), qu ++ [(k : Int)]), ⟨by simp only; omega, hB.addI hk' (h0 k (Nat.le_refl _)) (.inl ⟨rfl, h⟩), fun i hi hp => ?_, fun i hi => ?_⟩, by simp only; omega, ?_, ?_, ?_, ?_⟩
      · by_cases e : i = k
        · subst e
          simp only [mgetD_set]
          rw [if_pos ⟨trivial, by omega⟩]
          decide
        · exact set_nz (by decide) (hA i (by simp only at hi; omega) hp)
      · simp only [mgetD_set]
        rw [if_neg (fun e => by simp only at hi; omega)]
        exact h0 i (by simp only at hi; omega)
      all_goals (repeat' (first | exact Yq | exact Yi (by first | rfl | omega | (simp; done)) | exact Yo (by first | rfl | omega | (simp; done)) | exact Ye (by first | rfl | omega | (simp; done)) | refine ⟨_, rfl, Yb ?_, rfl⟩ | refine ⟨_, rfl, Yw (by first | rfl | omega | (simp; done)) ?_, rfl⟩ | refine And.intro ?_ ?_))
      · exact row_set (Nat.zero_add _) rfl hil.symm
      · exact rowF_snoc rfl fun q hq => by
          obtain rfl : q = 0 := by omega
          exact Dle.refl _
    · refine ⟨(k + 1, fI, qu), ⟨by simp only; omega, hB, fun i hi hp => ?_, fun i hi => h0 i (by simp only at hi; omega)⟩, by simp only; omega, ?_, ?_, ?_, ?_⟩
      · by_cases e : i = k
        · subst e
          rw [Nat.zero_add] at h
          exact absurd hp (Int.not_lt_of_ge h)
        · exact hA i (by simp only at hi; omega) hp
      all_goals exact Yz
  obtain rfl : k = is.length := by omega
  (repeat' (first | ((first | refine Zg ?_ | refine Zt dr24 ?_ | refine Zn ?_ | refine Zc ?_ | refine Zu fun b hb => ?_); conv => whnf) | (refine Zb (fun h => ?_) (fun h => ?_) <;> first | exact Zx | (conv => whnf))))
  all_goals first | (exfalso; omega) | skip
  clear h0 hk' hk
  refine WM.seq (WM.ofW ?_)
  (repeat' (first | ((first | refine Zg ?_ | refine Zt dr24 ?_ | refine Zn ?_ | refine Zc ?_ | refine Zu fun b hb => ?_); conv => whnf) | (refine Zb (fun h => ?_) (fun h => ?_) <;> first | exact Zx | (conv => whnf))))
  refine WM.cutK (ι := Int × List Int × List Int × List Int) [0, 1, 2, 3, 8, 9, 11, 13, 15, 16, 17] [33, 50, 67] (fun x => [(20, iA x.1)]) (fun x => [(82, .row 3 1 is.length (rowF iE x.2.1)), (85, .row 3 1 es.length (rowF iE x.2.2.1))]) (fun _ => gh is es G s.F)
    (fun x => BOk is es af bf s x.2.1 x.2.2.1 x.2.2.2 ∧ ((x.1 = -1 ∧ (∀ i, i < is.length → 0 < s.hv.getD i 0 → x.2.1.getD i 0 ≠ 0) ∧ PrOk is es af bf s x.2.1 x.2.2.1 x.2.2.2 x.2.2.2.length) ∨ ∃ k t : Nat, k < es.length ∧ x.1 = k ∧ t < x.2.2.2.length ∧ x.2.2.2.getD t 0 = (is.length : Int) + k ∧ 0 < s.lv.getD k 0)) ?_ ?_
  · conv => whnf
    refine WM.seq (WM.ofW ?_)
    (repeat' (first | ((first | refine Zg ?_ | refine Zt dr24 ?_ | refine Zn ?_ | refine Zc ?_ | refine Zu fun b hb => ?_); conv => whnf) | (refine Zb (fun h => ?_) (fun h => ?_) <;> first | exact Zx | (conv => whnf))))
    refine WM.block ?_
    refine WM.loopK (ι := Nat × List Int × List Int × List Int) [0, 1, 2, 3, 8, 9, 11, 13, 15, 16, 17, 20] [33, 50, 67] (fun x => [(21, iA x.1), (18, .own 4000 1 0 x.2.2.2.length)]) (fun x => [(82, .row 3 1 is.length (rowF iE x.2.1)), (85, .row 3 1 es.length (rowF iE x.2.2.1)), (4000, .row 3 1 x.2.2.2.length (rowF iE x.2.2.2))]) (fun _ => gh is es G s.F)
      (fun x => x.1 ≤ x.2.2.2.length ∧ BOk is es af bf s x.2.1 x.2.2.1 x.2.2.2 ∧ PrOk is es af bf s x.2.1 x.2.2.1 x.2.2.2 x.1 ∧ ∀ i, i < is.length → 0 < s.hv.getD i 0 → x.2.1.getD i 0 ≠ 0) (fun x => is.length + es.length - x.1) (0, fI, List.replicate es.length 0, qu) ⟨Nat.zero_le _, hB, PrOk.nil _ _ _ _, hA⟩ rfl ?_ ?_ ?_
    · exact Yz
    · exact Yz
    conv => whnf
    clear hB hA hql hil
    rintro ⟨q, gI, gE, qv⟩ ⟨hq, hB, hP, hA⟩
    simp only at hq hB hP hA
    have hql := hB.len
    have hil := hB.il
    have hel := hB.el
    refine WM.seq (WM.ofW ?_)
    (repeat' (first | ((first | refine Zg ?_ | refine Zt dr24 ?_ | refine Zn ?_ | refine Zc ?_ | refine Zu fun b hb => ?_); conv => whnf) | (refine Zb (fun h => ?_) (fun h => ?_) <;> first | exact Zx | (conv => whnf))))
    all_goals first | (exfalso; omega) | skip
    rotate_left
    · obtain rfl : q = qv.length := by omega
      refine ⟨(-1, gI, gE, qv), ⟨hB, .inl ⟨rfl, hA, hP⟩⟩, rfl, ?_, ?_, ?_, ?_⟩
      all_goals exact Yz
    have hq' : q < qv.length := by omega
    have hx := hB.qr _ (getD_mem hq')
    obtain ⟨x, hx0⟩ : ∃ x, qv.getD q 0 = x := ⟨_, rfl⟩
    rw [hx0] at hx
    refine WM.seq ?_
    refine WM.block ?_
    refine WM.seq (WM.ofW ?_)
    (repeat' (first | ((first | refine Zg ?_ | refine Zt dr24 ?_ | refine Zn ?_ | refine Zc ?_ | refine Zu fun b hb => ?_); conv => whnf) | (refine Zb (fun h => ?_) (fun h => ?_) <;> first | exact Zx | (conv => whnf))))
    all_goals (try dsimp only [Int.toNat_natCast] at *)
    (repeat' (first | ((first | refine Zg ?_ | refine Zt dr24 ?_ | refine Zn ?_ | refine Zc ?_ | refine Zu fun b hb => ?_); conv => whnf) | (refine Zb (fun h => ?_) (fun h => ?_) <;> first | exact Zx | (conv => whnf))))
    rw [show qv.getD (0 + q) default = x by rw [Nat.zero_add]; exact hx0]
    rcases hx with ⟨i, hi, rfl, hn⟩ | ⟨k, hk, rfl, hn⟩
    · refine WM.seq (WM.ofW ?_)
      (repeat' (first | ((first | refine Zg ?_ | refine Zt dr24 ?_ | refine Zn ?_ | refine Zc ?_ | refine Zu fun b hb => ?_); conv => whnf) | (refine Zb (fun h => ?_) (fun h => ?_) <;> first | exact Zx | (conv => whnf))))
      all_goals first | (exfalso; omega) | skip
      refine W.loopK (ι := Nat × List Int × List Int) [0, 1, 2, 3, 8, 9, 11, 13, 15, 16, 17, 20, 21, 22] [33, 50, 67, 82] (fun y => [(23, iA y.1), (18, .own 4000 1 0 y.2.2.length)]) (fun y => [(85, .row 3 1 es.length (rowF iE y.2.1)), (4000, .row 3 1 y.2.2.length (rowF iE y.2.2))])
        (fun y => y.1 ≤ es.length ∧ BOk is es af bf s gI y.2.1 y.2.2 ∧ PrOk is es af bf s gI y.2.1 y.2.2 q ∧ q < y.2.2.length ∧ y.2.2.getD q 0 = i ∧ ∀ k, k < y.1 → InM is es af bf i k → y.2.1.getD k 0 ≠ 0) (fun y => es.length - y.1) (0, gE, qv) ⟨Nat.zero_le _, hB, hP, hq', hx0, fun k hk => absurd hk (Nat.not_lt_zero _)⟩ ?_ ?_ ?_
      · exact Yz
      · exact Yz
      conv => whnf
      rintro ⟨k, fE, qw⟩ ⟨hk, hB2, hP2, hq2, hx2, hA2⟩
      simp only at hk hB2 hP2 hq2 hx2 hA2
      have hdi := dtErr_getD h1 i
      have hdk := dtErr_getD h2 k
      have hql2 := hB2.len
      have hel2 := hB2.el
      by_cases hk' : k < es.length
      · have e1 : fE.getD (0 + k) default = fE.getD k 0 := by rw [Nat.zero_add]; rfl
        by_cases hw : fE.getD k 0 = 0 ∧ InM is es af bf i k
        · obtain ⟨hw1, hw2⟩ := id hw
          unfold InM inW at hw2
          (repeat' (first | ((first | refine Zg ?_ | refine Zt dr24 ?_ | refine Zn ?_ | refine Zc ?_ | refine Zu fun b hb => ?_); conv => whnf) | (refine Zb (fun h => ?_) (fun h => ?_) <;> first | exact Zx | (conv => whnf))))
          all_goals (try dsimp only [Int.toNat_natCast] at *)
          (repeat' (first | ((first | refine Zg ?_ | refine Zt dr24 ?_ | refine Zn ?_ | refine Zc ?_ | refine Zu fun b hb => ?_); conv => whnf) | (refine Zb (fun h => ?_) (fun h => ?_) <;> first | exact Zx | (conv => whnf))))
          all_goals (try dsimp only [Int.toNat_natCast] at *)
          all_goals first | (exfalso; omega) | skip
          refine ⟨(k + 1, fE.set k ((i : Int) + 1), qw ++ [(is.length : Int) + k]), ⟨by simp only; omega, hB2.addE hk' hw1 hi hw.2 hq2 hx2, hP2.grow (by omega) _ (fun _ h => h) (fun j hj => set_nz (by omega) hj), by simp only [List.length_append, List.length_singleton]; omega, by simp only; rw [getD_app hq2]; exact hx2, fun k' hk'' hin => ?_⟩, by simp only; omega, ?_, ?_, ?_, ?_⟩
          · by_cases e : k' = k
            · subst e
              simp only [mgetD_set]
              rw [if_pos ⟨trivial, by omega⟩]
              omega
            · exact set_nz (by omega) (hA2 k' (by simp only at hk''; omega) hin)
          all_goals (repeat' (first | exact Yq | exact Yi (by first | rfl | omega | (simp; done)) | exact Yo (by first | rfl | omega | (simp; done)) | exact Ye (by first | rfl | omega | (simp; done)) | refine ⟨_, rfl, Yb ?_, rfl⟩ | refine ⟨_, rfl, Yw (by first | rfl | omega | (simp; done)) ?_, rfl⟩ | refine And.intro ?_ ?_))
          · exact row_set (Nat.zero_add _) rfl hel2.symm
          · exact rowF_snoc rfl fun q hq => by
              obtain rfl : q = 0 := by omega
              exact Dle.refl _
        · have hw2 : ¬ (fE.getD k 0 = 0 ∧ (is.getD i default).d - bf ≤ (es.getD k default).d ∧ (es.getD k default).d ≤ (is.getD i default).d + af) := hw
          (repeat' (first | ((first | refine Zg ?_ | refine Zt dr24 ?_ | refine Zn ?_ | refine Zc ?_ | refine Zu fun b hb => ?_); conv => whnf) | (refine Zb (fun h => ?_) (fun h => ?_) <;> first | exact Zx | (conv => whnf))))
          all_goals (try dsimp only [Int.toNat_natCast] at *)
          (repeat' (first | ((first | refine Zg ?_ | refine Zt dr24 ?_ | refine Zn ?_ | refine Zc ?_ | refine Zu fun b hb => ?_); conv => whnf) | (refine Zb (fun h => ?_) (fun h => ?_) <;> first | exact Zx | (conv => whnf))))
          all_goals (try dsimp only [Int.toNat_natCast] at *)
          all_goals first | (exfalso; omega) | skip
          all_goals (refine ⟨(k + 1, fE, qw), ⟨by simp only; omega, hB2, hP2, hq2, hx2, fun k' hk'' hin => ?_⟩, by simp only; omega, ?_, ?_, ?_, ?_⟩; rotate_left)
          all_goals first | (by_cases e : k' = k; (· subst e; exact fun e => hw ⟨e, hin⟩); exact hA2 k' (by simp only at hk''; omega) hin) | (repeat' (first | exact Yq | refine ⟨_, rfl, Yb ?_, rfl⟩ | refine ⟨_, rfl, Yw (by first | rfl | omega) ?_, rfl⟩ | refine And.intro ?_ ?_))
      obtain rfl : k = es.length := by omega
      (repeat' (first | ((first | refine Zg ?_ | refine Zt dr24 ?_ | refine Zn ?_ | refine Zc ?_ | refine Zu fun b hb => ?_); conv => whnf) | (refine Zb (fun h => ?_) (fun h => ?_) <;> first | exact Zx | (conv => whnf))))
      all_goals first | (exfalso; omega) | skip
      refine WM.ofW ?_
      (repeat' (first | ((first | refine Zg ?_ | refine Zt dr24 ?_ | refine Zn ?_ | refine Zc ?_ | refine Zu fun b hb => ?_); conv => whnf) | (refine Zb (fun h => ?_) (fun h => ?_) <;> first | exact Zx | (conv => whnf))))
      refine ⟨(q + 1, gI, fE, qw), ⟨by simp only; omega, hB2, hP2.succI hi hx2 hA2, hA⟩, by simp only; omega, rfl, ?_, ?_, ?_, ?_⟩
      all_goals exact Yz
    · refine WM.seq (WM.ofW ?_)
      (repeat' (first | ((first | refine Zg ?_ | refine Zt dr24 ?_ | refine Zn ?_ | refine Zc ?_ | refine Zu fun b hb => ?_); conv => whnf) | (refine Zb (fun h => ?_) (fun h => ?_) <;> first | exact Zx | (conv => whnf))))
      all_goals first | (exfalso; omega) | skip
      refine WM.seq (WM.ofW ?_)
      (repeat' (first | ((first | refine Zg ?_ | refine Zt dr24 ?_ | refine Zn ?_ | refine Zc ?_ | refine Zu fun b hb => ?_); conv => whnf) | (refine Zb (fun h => ?_) (fun h => ?_) <;> first | exact Zx | (conv => whnf))))
      rw [show (is.length : Int) + k - is.length = k by omega]
      refine WM.seq (WM.ofW ?_)
      (repeat' (first | ((first | refine Zg ?_ | refine Zt dr24 ?_ | refine Zn ?_ | refine Zc ?_ | refine Zu fun b hb => ?_); conv => whnf) | (refine Zb (fun h => ?_) (fun h => ?_) <;> first | exact Zx | (conv => whnf))))
      all_goals (try dsimp only [Int.toNat_natCast] at *)
      (repeat' (first | ((first | refine Zg ?_ | refine Zt dr24 ?_ | refine Zn ?_ | refine Zc ?_ | refine Zu fun b hb => ?_); conv => whnf) | (refine Zb (fun h => ?_) (fun h => ?_) <;> first | exact Zx | (conv => whnf))))
      · have h : 0 < s.lv.getD k 0 := by rw [Nat.zero_add] at h; exact h
        refine ⟨(k, gI, gE, qv), ⟨hB, .inr ⟨k, q, hk, rfl, hq', hx0, h⟩⟩, rfl, ?_, ?_, ?_, ?_⟩
        all_goals exact Yz
      have h : s.lv.getD k 0 ≤ 0 := by rw [Nat.zero_add] at h; exact h
      have hl0 : s.lv.getD k 0 = 0 := by have := hM.l0 k hk; omega
      refine WM.seq (WM.ofW ?_)
      (repeat' (first | ((first | refine Zg ?_ | refine Zt dr24 ?_ | refine Zn ?_ | refine Zc ?_ | refine Zu fun b hb => ?_); conv => whnf) | (refine Zb (fun h => ?_) (fun h => ?_) <;> first | exact Zx | (conv => whnf))))
      refine WM.block ?_
      refine WM.loopK (ι := Nat × List Int × List Int) [0, 1, 2, 3, 8, 9, 11, 13, 15, 16, 17, 20, 21, 24] [33, 50, 67, 85] (fun y => [(25, iA y.1), (18, .own 4000 1 0 y.2.2.length)]) (fun y => [(82, .row 3 1 is.length (rowF iE y.2.1)), (4000, .row 3 1 y.2.2.length (rowF iE y.2.2))]) (fun _ => gh is es G s.F)
        (fun y => y.1 ≤ is.length ∧ BOk is es af bf s y.2.1 gE y.2.2 ∧ PrOk is es af bf s y.2.1 gE y.2.2 q ∧ q < y.2.2.length ∧ y.2.2.getD q 0 = (is.length : Int) + k ∧ (∀ i, i < is.length → 0 < s.hv.getD i 0 → y.2.1.getD i 0 ≠ 0) ∧ ∀ i, i < y.1 → 0 < s.F i k → y.2.1.getD i 0 ≠ 0) (fun y => is.length - y.1) (0, gI, qv) ⟨Nat.zero_le _, hB, hP, hq', hx0, hA, fun k hk => absurd hk (Nat.not_lt_zero _)⟩ rfl ?_ ?_ ?_
      · exact Yz
      · exact Yz
      conv => whnf
      rintro ⟨i, fI, qw⟩ ⟨hi, hB2, hP2, hq2, hx2, hA2, hF2⟩
      simp only at hi hB2 hP2 hq2 hx2 hA2 hF2
      have hql2 := hB2.len
      have hil2 := hB2.il
      by_cases hi' : i < is.length
      · have hfl := hM.fle h1 hi' hk
        have hf0 := hM.f0 i hi' k hk
        refine WM.seq (WM.ofW ?_)
        (repeat' (first | ((first | refine Zg ?_ | refine Zt dr24 ?_ | refine Zn ?_ | refine Zc ?_ | refine Zu fun b hb => ?_); conv => whnf) | (refine Zb (fun h => ?_) (fun h => ?_) <;> first | exact Zx | (conv => whnf))))
        all_goals first | (exfalso; omega) | skip
        refine WM.seq ?_
        refine WM.block ?_
        refine WM.seq ?_
        refine WM.at i hi' rfl rfl rfl ?_
        conv => whnf
        (repeat' (first | ((first | refine Zg ?_ | refine Zt dr24 ?_ | refine Zn ?_ | refine Zc ?_ | refine Zu fun b hb => ?_); conv => whnf) | (refine Zb (fun h => ?_) (fun h => ?_) <;> first | exact Zx | (conv => whnf))))
        all_goals (try dsimp only [Int.toNat_natCast] at *)
        (repeat' (first | ((first | refine Zg ?_ | refine Zt dr24 ?_ | refine Zn ?_ | refine Zc ?_ | refine Zu fun b hb => ?_); conv => whnf) | (refine Zb (fun h => ?_) (fun h => ?_) <;> first | exact Zx | (conv => whnf))))
        all_goals (refine ⟨s.F, _, rfl, fun b hb => Dle.refl _, fun _ _ => rfl, ?_⟩; conv => whnf)
        all_goals refine WM.ofW ?_
        all_goals (repeat' (first | ((first | refine Zg ?_ | refine Zt dr24 ?_ | refine Zn ?_ | refine Zc ?_ | refine Zu fun b hb => ?_); conv => whnf) | (refine Zb (fun h => ?_) (fun h => ?_) <;> first | exact Zx | (conv => whnf))))
        all_goals (try dsimp only [Int.toNat_natCast] at *)
        all_goals (repeat' (first | ((first | refine Zg ?_ | refine Zt dr24 ?_ | refine Zn ?_ | refine Zc ?_ | refine Zu fun b hb => ?_); conv => whnf) | (refine Zb (fun h => ?_) (fun h => ?_) <;> first | exact Zx | (conv => whnf))))
        all_goals refine WM.ofW ?_
        all_goals (repeat' (first | ((first | refine Zg ?_ | refine Zt dr24 ?_ | refine Zn ?_ | refine Zc ?_ | refine Zu fun b hb => ?_); conv => whnf) | (refine Zb (fun h => ?_) (fun h => ?_) <;> first | exact Zx | (conv => whnf))))
        · rename_i e0
          have e0 : fI.getD i 0 = 0 := by rw [Nat.zero_add] at e0; exact e0
          refine ⟨(i + 1, fI.set i ((k : Int) + 1), qw ++ [(i : Int)]), ⟨by simp only; omega, hB2.addI hi' e0 (.inr ⟨k, q, hk, rfl, h, hq2, hx2⟩), hP2.grow (by omega) _ (fun j hj => set_nz (by omega) hj) (fun _ h => h), by simp only [List.length_append, List.length_singleton]; omega, by simp only; rw [getD_app hq2]; exact hx2, fun j hj hp => set_nz (by omega) (hA2 j hj hp), fun j hj hp => ?_⟩, by simp only; omega, rfl, ?_, ?_, ?_, ?_⟩
          · by_cases e : j = i
            · subst e
              simp only [mgetD_set]
              rw [if_pos ⟨trivial, by omega⟩]
              omega
            · exact set_nz (by omega) (hF2 j (by simp only at hj; omega) hp)
          all_goals (repeat' (first | exact Yq | exact Yi (by first | rfl | omega | (simp; done)) | exact Yo (by first | rfl | omega | (simp; done)) | exact Ye (by first | rfl | omega | (simp; done)) | refine ⟨_, rfl, Yb ?_, rfl⟩ | refine ⟨_, rfl, Yw (by first | rfl | omega | (simp; done)) ?_, rfl⟩ | refine And.intro ?_ ?_))
          · exact row_set (Nat.zero_add _) rfl hil2.symm
          · exact rowF_snoc rfl fun q hq => by
              obtain rfl : q = 0 := by omega
              exact Dle.refl _
        · refine ⟨(i + 1, fI, qw), ⟨by simp only; omega, hB2, hP2, hq2, hx2, hA2, fun j hj hp => ?_⟩, by simp only; omega, rfl, ?_, ?_, ?_, ?_⟩
          · by_cases e : j = i
            · subst e
              exact absurd hp (Int.not_lt_of_ge h)
            · exact hF2 j (by simp only at hj; omega) hp
          all_goals exact Yz
        · have e0 : ¬ fI.getD i 0 = 0 := by rw [Nat.zero_add] at h; exact h
          refine ⟨(i + 1, fI, qw), ⟨by simp only; omega, hB2, hP2, hq2, hx2, hA2, fun j hj hp => ?_⟩, by simp only; omega, rfl, ?_, ?_, ?_, ?_⟩
          · by_cases e : j = i
            · subst e
              exact e0
            · exact hF2 j (by simp only at hj; omega) hp
          all_goals exact Yz
      obtain rfl : i = is.length := by omega
      refine WM.seq (WM.ofW ?_)
      (repeat' (first | ((first | refine Zg ?_ | refine Zt dr24 ?_ | refine Zn ?_ | refine Zc ?_ | refine Zu fun b hb => ?_); conv => whnf) | (refine Zb (fun h => ?_) (fun h => ?_) <;> first | exact Zx | (conv => whnf))))
      all_goals first | (exfalso; omega) | skip
      refine WM.ofW ?_
      (repeat' (first | ((first | refine Zg ?_ | refine Zt dr24 ?_ | refine Zn ?_ | refine Zc ?_ | refine Zu fun b hb => ?_); conv => whnf) | (refine Zb (fun h => ?_) (fun h => ?_) <;> first | exact Zx | (conv => whnf))))
      refine ⟨(q + 1, fI, gE, qw), ⟨by simp only; omega, hB2, hP2.succE hk hx2 hl0 hF2, hA2⟩, by simp only; omega, rfl, ?_, ?_, ?_, ?_⟩
      all_goals exact Yz
  conv => whnf
  clear hB hA hql hil
  rintro ⟨e, gI, gE, qv⟩ ⟨hB, hE⟩
  simp only at hB hE
  have hil := hB.il
  have hel := hB.el
  rcases hE with ⟨rfl, hA, hP⟩ | ⟨k0, t0, hk0, rfl, ht0, hx0, hl0⟩
  · refine WM.seq (WM.ofW ?_)
    (repeat' (first | ((first | refine Zg ?_ | refine Zt dr24 ?_ | refine Zn ?_ | refine Zc ?_ | refine Zu fun b hb => ?_); conv => whnf) | (refine Zb (fun h => ?_) (fun h => ?_) <;> first | exact Zx | (conv => whnf))))
    exact Zi (most_cut hM hB hA hP hL)
  have hlle := hM.lle h2 hk0
  refine WM.seq (WM.ofW ?_)
  (repeat' (first | ((first | refine Zg ?_ | refine Zt dr24 ?_ | refine Zn ?_ | refine Zc ?_ | refine Zu fun b hb => ?_); conv => whnf) | (refine Zb (fun h => ?_) (fun h => ?_) <;> first | exact Zx | (conv => whnf))))
  all_goals first | (exfalso; omega) | skip
  refine WM.seq (WM.ofW ?_)
  (repeat' (first | ((first | refine Zg ?_ | refine Zt dr24 ?_ | refine Zn ?_ | refine Zc ?_ | refine Zu fun b hb => ?_); conv => whnf) | (refine Zb (fun h => ?_) (fun h => ?_) <;> first | exact Zx | (conv => whnf))))
  all_goals (try dsimp only [Int.toNat_natCast] at *)
  rw [show s.lv.getD (0 + k0) default = s.lv.getD k0 0 by rw [Nat.zero_add]; rfl]
  refine WM.cutK (ι := Int) [0, 1, 2, 3, 8, 9, 11, 13, 15, 16, 17, 20] [33, 50, 67, 82, 85] (fun N => [(26, iA N)]) (fun _ => []) (fun _ => gh is es G s.F) (fun N => 1 ≤ N ∧ N ≤ s.lv.getD k0 0 ∧ PB is.length gI gE qv s.hv s.F N t0 k0) ?_ ?_
  · conv => whnf
    refine WM.seq (WM.ofW ?_)
    (repeat' (first | ((first | refine Zg ?_ | refine Zt dr24 ?_ | refine Zn ?_ | refine Zc ?_ | refine Zu fun b hb => ?_); conv => whnf) | (refine Zb (fun h => ?_) (fun h => ?_) <;> first | exact Zx | (conv => whnf))))
    refine WM.block ?_
    refine WM.loopK (ι := Nat × Nat × Int) [0, 1, 2, 3, 8, 9, 11, 13, 15, 16, 17, 20] [33, 50, 67, 82, 85] (fun y => [(27, iA y.1), (26, iA y.2.2)]) (fun _ => []) (fun _ => gh is es G s.F)
      (fun y => y.1 < es.length ∧ y.2.1 < qv.length ∧ qv.getD y.2.1 0 = (is.length : Int) + y.1 ∧ 1 ≤ y.2.2 ∧ y.2.2 ≤ s.lv.getD k0 0 ∧ ∀ N', N' ≤ y.2.2 → PB is.length gI gE qv s.hv s.F N' y.2.1 y.1 → PB is.length gI gE qv s.hv s.F N' t0 k0) (fun y => y.2.1) (k0, t0, s.lv.getD k0 0) ⟨hk0, ht0, hx0, by simp only; omega, Int.le_refl _, fun _ _ h => h⟩ rfl ?_ ?_ ?_
    · exact Yz
    · exact Yz
    conv => whnf
    rintro ⟨k, t, N⟩ ⟨hk, ht, hx, hN1, hN2, hPB⟩
    simp only at hk ht hx hN1 hN2 hPB
    obtain ⟨x, t', hxm, hex, hin, htt, hqt⟩ := hB.led hk ht hx
    have hhl := hM.hle h1 hxm
    have hh0 := hM.h0 x hxm
    have e1 : gE.getD (0 + k) default = (x : Int) + 1 := by rw [Nat.zero_add]; exact hex
    refine WM.block ?_
    refine WM.seq (WM.ofW ?_)
    (repeat' (first | ((first | refine Zg ?_ | refine Zt dr24 ?_ | refine Zn ?_ | refine Zc ?_ | refine Zu fun b hb => ?_); conv => whnf) | (refine Zb (fun h => ?_) (fun h => ?_) <;> first | exact Zx | (conv => whnf))))
    all_goals (try dsimp only [Int.toNat_natCast] at *)
    (repeat' (first | ((first | refine Zg ?_ | refine Zt dr24 ?_ | refine Zn ?_ | refine Zc ?_ | refine Zu fun b hb => ?_); conv => whnf) | (refine Zb (fun h => ?_) (fun h => ?_) <;> first | exact Zx | (conv => whnf))))
    rw [show gE.getD (0 + k) default - 1 = (x : Int) by omega]
    have e2 : s.hv.getD (0 + x) default = s.hv.getD x 0 := by rw [Nat.zero_add]; rfl
    have e3 : gI.getD (0 + x) default = gI.getD x 0 := by rw [Nat.zero_add]; rfl
    refine WM.seq (WM.ofW ?_)
    (repeat' (first | ((first | refine Zg ?_ | refine Zt dr24 ?_ | refine Zn ?_ | refine Zc ?_ | refine Zu fun b hb => ?_); conv => whnf) | (refine Zb (fun h => ?_) (fun h => ?_) <;> first | exact Zx | (conv => whnf))))
    all_goals (try dsimp only [Int.toNat_natCast] at *)
    (repeat' (first | ((first | refine Zg ?_ | refine Zt dr24 ?_ | refine Zn ?_ | refine Zc ?_ | refine Zu fun b hb => ?_); conv => whnf) | (refine Zb (fun h => ?_) (fun h => ?_) <;> first | exact Zx | (conv => whnf))))
    · rcases hB.ledI hxm (by omega) hqt with ⟨q1, q2⟩ | ⟨k', t2, hk', q1, hF, ht2, hq2⟩
      · refine ⟨if s.hv.getD x 0 < N then s.hv.getD x 0 else N, ⟨by split <;> omega, by split <;> omega, hPB _ (by split <;> omega) (.last hex hxm htt hqt q1 (by split <;> omega))⟩, rfl, ?_, ?_, ?_, ?_⟩
        all_goals (repeat' (first | exact Yq | exact Yi (by first | rfl | (simp only [e2]; done) | omega) | exact Yo (by first | rfl | (simp only [e2]; done) | omega) | exact Ye (by first | rfl | (simp only [e2]; done) | omega) | refine ⟨_, rfl, Yb ?_, rfl⟩ | refine ⟨_, rfl, Yw (by first | rfl | (simp only [e2]; done) | omega) ?_, rfl⟩ | refine And.intro ?_ ?_))
      · exfalso; omega
    · rcases hB.ledI hxm (by omega) hqt with ⟨q1, q2⟩ | ⟨k', t2, hk', q1, hF, ht2, hq2⟩
      · exfalso; omega
      have hfl := hM.fle h1 hxm hk'
      refine WM.seq (WM.ofW ?_)
      (repeat' (first | ((first | refine Zg ?_ | refine Zt dr24 ?_ | refine Zn ?_ | refine Zc ?_ | refine Zu fun b hb => ?_); conv => whnf) | (refine Zb (fun h => ?_) (fun h => ?_) <;> first | exact Zx | (conv => whnf))))
      all_goals (try dsimp only [Int.toNat_natCast] at *)
      (repeat' (first | ((first | refine Zg ?_ | refine Zt dr24 ?_ | refine Zn ?_ | refine Zc ?_ | refine Zu fun b hb => ?_); conv => whnf) | (refine Zb (fun h => ?_) (fun h => ?_) <;> first | exact Zx | (conv => whnf))))
      rw [show gI.getD (0 + x) default - 1 = (k' : Int) by omega]
      refine WM.at x hxm rfl rfl rfl ?_
      conv => whnf
      (repeat' (first | ((first | refine Zg ?_ | refine Zt dr24 ?_ | refine Zn ?_ | refine Zc ?_ | refine Zu fun b hb => ?_); conv => whnf) | (refine Zb (fun h => ?_) (fun h => ?_) <;> first | exact Zx | (conv => whnf))))
      all_goals (try dsimp only [Int.toNat_natCast] at *)
      (repeat' (first | ((first | refine Zg ?_ | refine Zt dr24 ?_ | refine Zn ?_ | refine Zc ?_ | refine Zu fun b hb => ?_); conv => whnf) | (refine Zb (fun h => ?_) (fun h => ?_) <;> first | exact Zx | (conv => whnf))))
      refine ⟨s.F, _, rfl, fun b hb => Dle.refl _, fun _ _ => rfl, ?_⟩
      conv => whnf
      refine ⟨(k', t2, if s.F x k' < N then s.F x k' else N), ⟨hk', by simp only; omega, hq2, by simp only; split <;> omega, by simp only; split <;> omega, fun N' hN' hp => hPB N' (by simp only at hN'; split at hN' <;> omega) (.step hex hxm htt hqt q1 ht2 hq2 (by simp only at hN'; split at hN' <;> omega) hp)⟩, by simp only; omega, rfl, ?_, ?_, ?_, ?_⟩
      all_goals exact Yz
  conv => whnf
  rintro N ⟨hN1, hN2, hPB⟩
  have hTl := hM.tle h1
  have e1 : s.lv.getD (0 + k0) default = s.lv.getD k0 0 := by rw [Nat.zero_add]; rfl
  refine WM.seq (WM.ofW ?_)
  (repeat' (first | ((first | refine Zg ?_ | refine Zt dr24 ?_ | refine Zn ?_ | refine Zc ?_ | refine Zu fun b hb => ?_); conv => whnf) | (refine Zb (fun h => ?_) (fun h => ?_) <;> first | exact Zx | (conv => whnf))))
  all_goals (try dsimp only [Int.toNat_natCast] at *)
  (repeat' (first | ((first | refine Zg ?_ | refine Zt dr24 ?_ | refine Zn ?_ | refine Zc ?_ | refine Zu fun b hb => ?_); conv => whnf) | (refine Zb (fun h => ?_) (fun h => ?_) <;> first | exact Zx | (conv => whnf))))
  refine WM.seq (WM.ofW ?_)
  (repeat' (first | ((first | refine Zg ?_ | refine Zt dr24 ?_ | refine Zn ?_ | refine Zc ?_ | refine Zu fun b hb => ?_); conv => whnf) | (refine Zb (fun h => ?_) (fun h => ?_) <;> first | exact Zx | (conv => whnf))))
  refine WM.seq (WM.ofW ?_)
  (repeat' (first | ((first | refine Zg ?_ | refine Zt dr24 ?_ | refine Zn ?_ | refine Zc ?_ | refine Zu fun b hb => ?_); conv => whnf) | (refine Zb (fun h => ?_) (fun h => ?_) <;> first | exact Zx | (conv => whnf))))
  refine WM.block ?_
  refine WM.loopK (ι := MS × Nat × Nat) [0, 1, 2, 3, 8, 9, 11, 13, 15, 16, 17, 26] [67, 82, 85] (fun y => [(29, iA y.2.1)]) (fun y => [(33, .row 3 1 is.length (rowF iE y.1.hv)), (50, .row 3 1 es.length (rowF iE y.1.lv))]) (fun y => gh is es G y.1.F)
    (fun y => MvOk (is := is) (es := es) (af := af) (bf := bf) y.1 N y.2.1 ∧ y.2.1 < es.length ∧ y.2.2 < qv.length ∧ qv.getD y.2.2 0 = (is.length : Int) + y.2.1 ∧ PB is.length gI gE qv y.1.hv y.1.F N y.2.2 y.2.1 ∧ T = sN is.length (fun i => (is.getD i default).q - y.1.hv.getD i 0)) (fun y => y.2.2) (⟨s.hv, s.lv.set k0 (s.lv.getD k0 0 - N), s.F⟩, k0, t0) ⟨hM.move hk0 hN2, hk0, ht0, hx0, hPB, hM.tot⟩ rfl ?_ ?_ ?_
  · exact Yz
  · (repeat' (first | exact Yq | refine ⟨_, rfl, Yb ?_, rfl⟩ | refine ⟨_, rfl, Yw (by first | rfl | omega) ?_, rfl⟩ | refine And.intro ?_ ?_))
    exact row_set (Nat.zero_add _) (by omega) hM.ll.symm
  conv => whnf
  clear hPB hx0 ht0
  rintro ⟨s2, k, t⟩ ⟨hV, hk, ht, hx, hp, hT⟩
  simp only at hV hk ht hx hp hT
  obtain ⟨x, t', hxm, hex, hin, htt, hqt⟩ := hB.led hk ht hx
  have hfl := hV.fle h1 hxm hk
  have hf0 := hV.f0 x hxm k hk
  have hhl := hV.hle h1 hxm
  have hh0 := hV.h0 x hxm
  have e2 : gE.getD (0 + k) default = (x : Int) + 1 := by rw [Nat.zero_add]; exact hex
  have e3 : gI.getD (0 + x) default = gI.getD x 0 := by rw [Nat.zero_add]; rfl
  have e4 : s2.hv.getD (0 + x) default = s2.hv.getD x 0 := by rw [Nat.zero_add]; rfl
  refine WM.block ?_
  refine WM.seq (WM.ofW ?_)
  (repeat' (first | ((first | refine Zg ?_ | refine Zt dr24 ?_ | refine Zn ?_ | refine Zc ?_ | refine Zu fun b hb => ?_); conv => whnf) | (refine Zb (fun h => ?_) (fun h => ?_) <;> first | exact Zx | (conv => whnf))))
  all_goals (try dsimp only [Int.toNat_natCast] at *)
  (repeat' (first | ((first | refine Zg ?_ | refine Zt dr24 ?_ | refine Zn ?_ | refine Zc ?_ | refine Zu fun b hb => ?_); conv => whnf) | (refine Zb (fun h => ?_) (fun h => ?_) <;> first | exact Zx | (conv => whnf))))
  rw [show gE.getD (0 + k) default - 1 = (x : Int) by omega]
  refine WM.seq ?_
  refine WM.at x hxm rfl rfl rfl ?_
  refine Zt mx24 ?_
  conv => whnf
  (repeat' (first | ((first | refine Zg ?_ | refine Zt dr24 ?_ | refine Zn ?_ | refine Zc ?_ | refine Zu fun b hb => ?_); conv => whnf) | (refine Zb (fun h => ?_) (fun h => ?_) <;> first | exact Zx | (conv => whnf))))
  all_goals (try dsimp only [Int.toNat_natCast] at *)
  (repeat' (first | ((first | refine Zg ?_ | refine Zt dr24 ?_ | refine Zn ?_ | refine Zc ?_ | refine Zu fun b hb => ?_); conv => whnf) | (refine Zb (fun h => ?_) (fun h => ?_) <;> first | exact Zx | (conv => whnf))))
  refine ⟨updF s2.F x k N, _, rfl, fun b hb => rowI_set rfl rfl b, fun a ha => updF_ne ha, ?_⟩
  conv => whnf
  refine WM.seq (WM.ofW ?_)
  (repeat' (first | ((first | refine Zg ?_ | refine Zt dr24 ?_ | refine Zn ?_ | refine Zc ?_ | refine Zu fun b hb => ?_); conv => whnf) | (refine Zb (fun h => ?_) (fun h => ?_) <;> first | exact Zx | (conv => whnf))))
  all_goals (try dsimp only [Int.toNat_natCast] at *)
  (repeat' (first | ((first | refine Zg ?_ | refine Zt dr24 ?_ | refine Zn ?_ | refine Zc ?_ | refine Zu fun b hb => ?_); conv => whnf) | (refine Zb (fun h => ?_) (fun h => ?_) <;> first | exact Zx | (conv => whnf))))
  · cases hp with
    | step hi him hs hq q1 hs' hq' hb hp =>
      rename_i s0 i t2 k2
      obtain rfl : i = x := by omega
      exfalso; omega
    | last hi him hs hq q1 hb =>
      rename_i s0 i
      obtain rfl : i = x := by omega
      have hM2 := hV.last (by omega) hk hxm hin hb hT
      have hT2 := hM2.tle h1
      refine ⟨(⟨s2.hv.set i (s2.hv.getD i 0 - N), s2.lv, updF s2.F i k N⟩, T + N), hM2, by simp only; omega, rfl, ?_, ?_, ?_, ?_⟩
      all_goals (repeat' (first | exact Yq | refine ⟨_, rfl, Yb ?_, rfl⟩ | refine ⟨_, rfl, Yw (by first | rfl | omega) ?_, rfl⟩ | refine And.intro ?_ ?_))
      exact row_set (Nat.zero_add _) (by omega) hV.hl.symm
  · cases hp with
    | last hi him hs hq q1 hb =>
      rename_i s0 i
      obtain rfl : i = x := by omega
      exfalso; omega
    | step hi him hs hq q1 hs' hq' hb hp =>
      rename_i s0 i t2 k'
      obtain rfl : i = x := by omega
      obtain rfl : s0 = t' := nd_inj hB.nd (by omega) (by omega) (hq.trans hqt.symm)
      have hk' : k' < es.length := by
        rcases hB.ledI hxm (by omega) hqt with ⟨z1, _⟩ | ⟨k2, t3, z1, z2, _⟩
        · omega
        · omega
      have hne : k' ≠ k := fun e => by
        subst e
        have := nd_inj hB.nd (by omega) ht (hq'.trans hx.symm)
        omega
      have hfl' := hV.fle h1 hxm hk'
      have hf0' := hV.f0 i hxm k' hk'
      have e5 : updF s2.F i k N i k' = s2.F i k' := if_neg fun q => hne q.2
      refine WM.seq (WM.ofW ?_)
      (repeat' (first | ((first | refine Zg ?_ | refine Zt dr24 ?_ | refine Zn ?_ | refine Zc ?_ | refine Zu fun b hb => ?_); conv => whnf) | (refine Zb (fun h => ?_) (fun h => ?_) <;> first | exact Zx | (conv => whnf))))
      all_goals (try dsimp only [Int.toNat_natCast] at *)
      (repeat' (first | ((first | refine Zg ?_ | refine Zt dr24 ?_ | refine Zn ?_ | refine Zc ?_ | refine Zu fun b hb => ?_); conv => whnf) | (refine Zb (fun h => ?_) (fun h => ?_) <;> first | exact Zx | (conv => whnf))))
      rw [show gI.getD (0 + i) default - 1 = (k' : Int) by omega]
      refine WM.at i hxm rfl rfl rfl ?_
      refine Zt mx24 ?_
      conv => whnf
      (repeat' (first | ((first | refine Zg ?_ | refine Zt dr24 ?_ | refine Zn ?_ | refine Zc ?_ | refine Zu fun b hb => ?_); conv => whnf) | (refine Zb (fun h => ?_) (fun h => ?_) <;> first | exact Zx | (conv => whnf))))
      all_goals (try dsimp only [Int.toNat_natCast] at *)
      (repeat' (first | ((first | refine Zg ?_ | refine Zt dr24 ?_ | refine Zn ?_ | refine Zc ?_ | refine Zu fun b hb => ?_); conv => whnf) | (refine Zb (fun h => ?_) (fun h => ?_) <;> first | exact Zx | (conv => whnf))))
      refine ⟨updF (updF s2.F i k N) i k' (-N), _, rfl, fun b hb => rowI_set rfl (by omega) b, fun a ha => updF_ne ha, ?_⟩
      conv => whnf
      refine ⟨(⟨s2.hv, s2.lv, updF (updF s2.F i k N) i k' (-N)⟩, k', t2), ⟨hV.step (by omega) hk hxm hk' hne hin hb, hk', by simp only; omega, hq', hp.keep fun j s hs2 hj b => ?_, hT⟩, by simp only; omega, rfl, ?_, ?_, ?_, ?_⟩
      · have hji : j ≠ i := fun e => by
          subst e
          have := nd_inj hB.nd (by omega) (by omega) (hj.trans hqt.symm)
          omega
        simp only [updF_ne hji]
      all_goals exact Yz
end Go.Proofs.Ytoeghejbgibioaa
