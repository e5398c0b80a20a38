/- Settling: imports and exports are matched. -/
import Derived.Test.YtoeghejbgibioaaYN
namespace Go.Proofs.Ytoeghejbgibioaa
open Go Go.RowKit
set_option linter.unusedVariables false
set_option linter.unusedSimpArgs false
set_option maxRecDepth 100000
set_option maxHeartbeats 4000000
attribute [local irreducible] ResLe AVle ArgLe ArgP EntLe Dle ResH ArgQ strEq strLt

abbrev SS := Int × List Int × List Mt
def inW (x y : Dt) (af bf : Int) : Prop := x.d - bf ≤ y.d ∧ y.d ≤ x.d + af
instance (x y : Dt) (af bf : Int) : Decidable (inW x y af bf) := by unfold inW; exact inferInstance
def seN (s : SS) (j : Nat) : Int := if s.2.1.getD j 0 < s.1 then s.2.1.getD j 0 else s.1
def seStep (x : Dt) (i : Nat) (es : List Dt) (af bf : Int) (s : SS) (j : Nat) : SS :=
  if inW x (es.getD j default) af bf ∧ 0 < seN s j then (s.1 - seN s j, s.2.1.set j (s.2.1.getD j 0 - seN s j), s.2.2 ++ [⟨i, j, seN s j⟩]) else s
def seJ (x : Dt) (i : Nat) (es : List Dt) (af bf : Int) (s : SS) : Nat → SS
  | 0 => s
  | j + 1 => seStep x i es af bf (seJ x i es af bf s j) j
def seI (is es : List Dt) (af bf : Int) : Nat → List Int × List Mt
  | 0 => (es.map Dt.q, [])
  | i + 1 => (seJ (is.getD i default) i es af bf ((is.getD i default).q, seI is es af bf i) es.length).2
structure SOk (n m : Nat) (s : SS) : Prop where
  left : 0 ≤ s.1 ∧ s.1 ≤ 1000000000
  len : s.2.1.length = n
  op : ∀ j, 0 ≤ s.2.1.getD j 0 ∧ s.2.1.getD j 0 ≤ 1000000000
  out : s.2.2.length ≤ m
theorem seN_rng {n m : Nat} {s : SS} (h : SOk n m s) (j : Nat) : 0 ≤ seN s j ∧ seN s j ≤ s.1 ∧ seN s j ≤ s.2.1.getD j 0 := by
  have h1 := h.left
  have h2 := h.op j
  unfold seN
  split <;> omega
theorem SOk.step {n m : Nat} {s : SS} (h : SOk n m s) (x : Dt) (i : Nat) (es : List Dt) (af bf : Int) (j : Nat) : SOk n (m + 1) (seStep x i es af bf s j) := by
  have h1 := h.left
  have h2 := seN_rng h j
  unfold seStep
  split
  · refine ⟨by simp only; omega, by simpa using h.len, fun k => ?_, by simp; exact h.out⟩
    show 0 ≤ (s.2.1.set j (s.2.1.getD j 0 - seN s j)).getD k 0 ∧ (s.2.1.set j (s.2.1.getD j 0 - seN s j)).getD k 0 ≤ 1000000000
    have hk := h.op k
    have hj := h.op j
    rw [List.getD_eq_getElem?_getD, List.getElem?_set]
    rw [List.getD_eq_getElem?_getD] at hk
    split
    · split
      · simp only [Option.getD_some]; omega
      · simp
    · exact hk
  · exact ⟨h.left, h.len, h.op, Nat.le_succ_of_le h.out⟩
theorem SOk.all {n m : Nat} {s : SS} (h : SOk n m s) (x : Dt) (i : Nat) (es : List Dt) (af bf : Int) : ∀ j, SOk n (m + j) (seJ x i es af bf s j)
  | 0 => h
  | j + 1 => (SOk.all h x i es af bf j).step x i es af bf j
theorem dtF_zero (ds : List Dt) : ∀ m i, dtF ds m i = 0 → ∀ j, i ≤ j → j < i + m → dtA ds j = 0
  | 0, i, _, j, h1, h2 => absurd h2 (by omega)
  | m + 1, i, h, j, h1, h2 => by
    unfold dtF at h
    by_cases h0 : dtA ds i = 0
    · rw [if_neg (by simpa using h0)] at h
      by_cases hj : j = i
      · rw [hj]; exact h0
      · exact dtF_zero ds m (i + 1) h j (by omega) (by omega)
    · rw [if_pos h0] at h
      exact absurd h h0
theorem dtErr_zero {ds : List Dt} (h : dtErr ds = 0) {i : Nat} (hi : i < ds.length) : dtR (ds.getD i default) ∧ (0 < i → (ds.getD (i - 1) default).d ≤ (ds.getD i default).d) := by
  have hk := dtF_zero ds _ _ h i (Nat.zero_le _) (by omega)
  unfold dtA at hk
  split at hk
  · cases hk
  rename_i h1
  have h1' : dtR (ds.getD i default) := by simpa using h1
  split at hk
  · cases hk
  · rename_i h2
    exact ⟨h1', fun h0 => by omega⟩
theorem dtErr_getD {ds : List Dt} (h : dtErr ds = 0) (i : Nat) : 0 ≤ (ds.getD i default).q ∧ (ds.getD i default).q ≤ 1000000000 ∧ 0 ≤ (ds.getD i default).d ∧ (ds.getD i default).d ≤ 36524 := by
  by_cases hi : i < ds.length
  · have := (dtErr_zero h hi).1
    unfold dtR at this
    omega
  · rw [List.getD_eq_getElem?_getD, List.getElem?_eq_none (by omega)]
    decide
theorem seI_ok {is es : List Dt} (h1 : dtErr is = 0) (h2 : dtErr es = 0) (af bf : Int) : ∀ i, SOk es.length (es.length * i) (0, seI is es af bf i)
  | 0 => ⟨by simp, by simp [seI], fun j => by
      show 0 ≤ (es.map Dt.q).getD j 0 ∧ (es.map Dt.q).getD j 0 ≤ 1000000000
      have := dtErr_getD h2 j
      by_cases hj : j < es.length
      · simpa [List.getD_eq_getElem?_getD, hj] using (by omega : 0 ≤ (es.getD j default).q ∧ (es.getD j default).q ≤ 1000000000)
      · rw [List.getD_eq_getElem?_getD, List.getElem?_eq_none (by simpa using hj)]
        decide, by simp [seI]⟩
  | i + 1 => by
    have ih := seI_ok h1 h2 af bf i
    have hx := dtErr_getD h1 i
    have h3 : SOk es.length (es.length * i) ((is.getD i default).q, seI is es af bf i) := ⟨by simp only; omega, ih.len, ih.op, ih.out⟩
    have h4 := h3.all (is.getD i default) i es af bf es.length
    exact ⟨by simp, h4.len, h4.op, h4.out⟩
def opF (es : List Dt) (k i j : Nat) : D := .val (.int .i64 (if i < k then (es.getD i default).q else 0))
theorem opF_set (es : List Dt) (k i j : Nat) (hj : j < 1) : Dle (setF (opF es k) k 0 [.val (.int .i64 (es.getD k default).q)] i j) (opF es (k + 1) i j) := by
  obtain rfl : j = 0 := by omega
  rw [setF_eq]
  unfold opF
  by_cases hik : i = k
  · subst hik
    rw [if_pos ⟨rfl, by omega, by simp⟩, if_pos (by omega)]
    exact Dle.refl _
  · rw [if_neg (by omega)]
    by_cases h : i < k
    · rw [if_pos h, if_pos (by omega)]; exact Dle.refl _
    · rw [if_neg h, if_neg (by omega)]; exact Dle.refl _
theorem opF_end (es : List Dt) (i j : Nat) (hi : i < es.length) : opF es es.length i j = rowF iE (es.map Dt.q) i j := by
  unfold opF rowF iE
  rw [if_pos hi]
  simp [List.getD_eq_getElem?_getD, hi]
theorem ysettle_t (is es : List Dt) (af bf : Int) (l1 : is.length ≤ 64) (l2 : es.length ≤ 64) (h1 : dtErr is = 0) (h2 : dtErr es = 0) (haf : 0 ≤ af ∧ af ≤ 36524) (hbf : 0 ≤ bf ∧ bf ≤ 36524) :
    ACalls XX 21 [.dat (dtD is), .dat (dtD es), iA af, iA bf] (.tup [.dat (mtD (seI is es af bf is.length).2), iA 0]) := by
  have k1 := ycheck_t is (by omega)
  have k2 := ycheck_t es (by omega)
  rw [h1] at k1
  rw [h2] at k2
  refine ACalls.of (n := Try.f21.ntmps) XX_ok Try.func21 rfl (by kernel_rfl) rfl rfl (Nat.le_of_ble_eq_true rfl) ?_
  (repeat' (first | refine Zs ?_ | refine Zk ?_ | ((first | refine Za ?_ | refine Zr ?_ | refine Zp ?_ | refine Ze ?_ | refine Zd ?_ | refine Zn ?_ | refine Zc ?_ | refine UnK.mk (fun b hb => ?_) | refine Zy k1 ?_ | refine Zy k2 ?_); conv => whnf) | (refine Zb (fun h => ?_) (fun h => ?_) <;> first | exact Zx | (conv => whnf))))
  all_goals first | (exfalso; omega) | skip
  refine (W.loopK (ι := Nat) [0, 1, 2, 3, 12, 57, 58] [] (fun k => [(59, iA k)]) (fun k => [(56, .row 3 1 es.length (opF es k))]) (fun k => k ≤ es.length) (fun k => es.length - k) 0 (Nat.zero_le _) ?_ ?_ ?_)
  · exact Yz
  · (repeat' (first | exact trivial | exact Yr | exact Yi (by first | rfl | omega) | exact Yo (by first | rfl | omega) | exact Yd | exact Yn | exact Ye (by first | rfl | omega) | exact ⟨_, rfl, Yf, rfl⟩ | refine ⟨_, rfl, Yb ?_, rfl⟩ | refine ⟨_, rfl, Yw (by first | rfl | omega) ?_, rfl⟩ | refine And.intro ?_ ?_))
    intro i hi j hj
    unfold opF
    rw [if_neg (by omega)]
    obtain rfl : j = 0 := by omega
    exact Dle.refl _
  conv => whnf
  intro k hk
  by_cases hk' : k < es.length
  · (repeat' (first | refine Zs ?_ | refine Zk ?_ | ((first | refine Za ?_ | refine Zr ?_ | refine Zp ?_ | refine Ze ?_ | refine Zd ?_ | refine Zn ?_ | refine Zc ?_ | refine UnK.mk (fun b hb => ?_)); conv => whnf) | (refine Zb (fun h => ?_) (fun h => ?_) <;> first | exact Zx | (conv => whnf))))
    all_goals (try dsimp only [Int.toNat_natCast] at *)
    (repeat' (first | refine Zs ?_ | refine Zk ?_ | ((first | refine Za ?_ | refine Zr ?_ | refine Zp ?_ | refine Ze ?_ | refine Zd ?_ | refine Zn ?_ | refine Zc ?_ | refine UnK.mk (fun b hb => ?_)); conv => whnf) | (refine Zb (fun h => ?_) (fun h => ?_) <;> first | exact Zx | (conv => whnf))))
    all_goals (try dsimp only [Int.toNat_natCast] at *)
    all_goals first | (exfalso; omega) | skip
    refine ⟨k + 1, by omega, by omega, ?_, ?_, ?_, ?_⟩
    all_goals (repeat' (first | exact trivial | exact Yr | exact Yi (by first | rfl | omega) | exact Yo (by first | rfl | omega) | exact Yd | exact Yn | exact Ye (by first | rfl | omega) | exact ⟨_, rfl, Yf, rfl⟩ | refine ⟨_, rfl, Yb ?_, rfl⟩ | refine ⟨_, rfl, Yw (by first | rfl | omega) ?_, rfl⟩ | refine And.intro ?_ ?_))
    intro i hi j hj
    simp only [Nat.zero_add]
    exact opF_set es k i j hj
  obtain rfl : k = es.length := by omega
  (repeat' (first | refine Zs ?_ | refine Zk ?_ | ((first | refine Zas 18 ?_ | refine Zr ?_ | refine Zp ?_ | refine Ze ?_ | refine Zd ?_ | refine Zn ?_ | refine Zc ?_ | refine UnK.mk (fun b hb => ?_)); conv => whnf) | (refine Zb (fun h => ?_) (fun h => ?_) <;> first | exact Zx | (conv => whnf))))
  all_goals first | (exfalso; omega) | skip
  all_goals (conv => whnf)
  refine (W.adopt 15 126 56 3 (rowF mtE []) rfl rfl rfl rfl ?_)
  conv => whnf
  (repeat' (first | refine Zs ?_ | refine Zk ?_ | ((first | refine Za ?_ | refine Zr ?_ | refine Zp ?_ | refine Ze ?_ | refine Zd ?_ | refine Zn ?_ | refine Zc ?_ | refine UnK.mk (fun b hb => ?_)); conv => whnf) | (refine Zb (fun h => ?_) (fun h => ?_) <;> first | exact Zx | (conv => whnf))))
  refine (W.loopK (ι := Nat) [0, 1, 2, 3, 12, 70, 71] [] (fun i => [(72, iA i), (15, .own 126 3 0 (seI is es af bf i).2.length)]) (fun i => [(56, .row 3 1 es.length (rowF iE (seI is es af bf i).1)), (126, .row 56 3 (seI is es af bf i).2.length (rowF mtE (seI is es af bf i).2))]) (fun i => i ≤ is.length) (fun i => is.length - i) 0 (Nat.zero_le _) ?_ ?_ ?_)
  · exact Yz
  · (repeat' (first | exact trivial | exact Yr | exact Yi (by first | rfl | omega) | exact Yo (by first | rfl | omega) | exact Yd | exact Yn | exact Ye (by first | rfl | omega) | exact ⟨_, rfl, Yf, rfl⟩ | refine ⟨_, rfl, Yb ?_, rfl⟩ | refine ⟨_, rfl, Yw (by first | rfl | omega) ?_, rfl⟩ | refine And.intro ?_ ?_))
    intro i hi j hj
    exact Dle.of_eq (opF_end es i j hi)
  conv => whnf
  intro i hi
  by_cases hi' : i < is.length
  · have o1 := seI_ok h1 h2 af bf i
    have hx := dtErr_getD h1 i
    have eI : seI is es af bf (i + 1) = (seJ (is.getD i default) i es af bf ((is.getD i default).q, seI is es af bf i) es.length).2 := rfl
    have o2 : SOk es.length (es.length * i) ((is.getD i default).q, seI is es af bf i) := ⟨by simp only; omega, o1.len, o1.op, o1.out⟩
    generalize seI is es af bf i = S at *
    have hm : es.length * i ≤ 64 * 64 := Nat.mul_le_mul l2 (by omega)
    (repeat' (first | refine Zs ?_ | refine Zk ?_ | ((first | refine Za ?_ | refine Zr ?_ | refine Zp ?_ | refine Ze ?_ | refine Zd ?_ | refine Zn ?_ | refine Zc ?_ | refine UnK.mk (fun b hb => ?_)); conv => whnf) | (refine Zb (fun h => ?_) (fun h => ?_) <;> first | exact Zx | (conv => whnf))))
    all_goals (try dsimp only [Int.toNat_natCast] at *)
    (repeat' (first | refine Zs ?_ | refine Zk ?_ | ((first | refine Za ?_ | refine Zr ?_ | refine Zp ?_ | refine Ze ?_ | refine Zd ?_ | refine Zn ?_ | refine Zc ?_ | refine UnK.mk (fun b hb => ?_)); conv => whnf) | (refine Zb (fun h => ?_) (fun h => ?_) <;> first | exact Zx | (conv => whnf))))
    all_goals (try dsimp only [Int.toNat_natCast] at *)
    all_goals first | (exfalso; omega) | skip
    refine (W.loopK (ι := Nat) [0, 1, 2, 3, 12, 16, 17, 70, 71, 72, 79, 80] [17] (fun j => [(81, iA j), (18, iA (seJ (is.getD i default) i es af bf ((is.getD i default).q, S) j).1), (15, .own 126 3 0 (seJ (is.getD i default) i es af bf ((is.getD i default).q, S) j).2.2.length)]) (fun j => [(56, .row 3 1 es.length (rowF iE (seJ (is.getD i default) i es af bf ((is.getD i default).q, S) j).2.1)), (126, .row 56 3 (seJ (is.getD i default) i es af bf ((is.getD i default).q, S) j).2.2.length (rowF mtE (seJ (is.getD i default) i es af bf ((is.getD i default).q, S) j).2.2))]) (fun j => j ≤ es.length) (fun j => es.length - j) 0 (Nat.zero_le _) ?_ ?_ ?_)
    · exact Yz
    · exact Yz
    conv => whnf
    intro j hj
    have o3 := o2.all (is.getD i default) i es af bf j
    by_cases hj' : j < es.length
    · have eJ : seJ (is.getD i default) i es af bf ((is.getD i default).q, S) (j + 1) = seStep (is.getD i default) i es af bf (seJ (is.getD i default) i es af bf ((is.getD i default).q, S) j) j := rfl
      have hy := dtErr_getD h2 j
      obtain ⟨s', eT⟩ : ∃ s', seJ (is.getD i default) i es af bf ((is.getD i default).q, S) (j + 1) = s' := ⟨_, rfl⟩
      rw [eT] at eJ
      generalize seJ (is.getD i default) i es af bf ((is.getD i default).q, S) j = s at *
      have q1 := o3.left
      have q2 := o3.op j
      have q3 := o3.out
      have q4 := seN_rng o3 j
      have eN : seN s j = if s.2.1.getD j 0 < s.1 then s.2.1.getD j 0 else s.1 := rfl
      clear o1 o2 eI
      by_cases hw : inW (is.getD i default) (es.getD j default) af bf
      rotate_left
      · have e1 : s' = s := by rw [eJ]; exact if_neg fun h => hw h.1
        subst e1
        unfold inW at hw
        (repeat' (first | refine Zs ?_ | refine Zk ?_ | ((first | refine Za ?_ | refine Zr ?_ | refine Zp ?_ | refine Ze ?_ | refine Zd ?_ | refine Zn ?_ | refine Zc ?_ | refine UnK.mk (fun b hb => ?_)); conv => whnf) | (refine Zb (fun h => ?_) (fun h => ?_) <;> first | exact Zx | (conv => whnf))))
        all_goals (try dsimp only [Int.toNat_natCast] at *)
        (repeat' (first | refine Zs ?_ | refine Zk ?_ | ((first | refine Za ?_ | refine Zr ?_ | refine Zp ?_ | refine Ze ?_ | refine Zd ?_ | refine Zn ?_ | refine Zc ?_ | refine UnK.mk (fun b hb => ?_)); conv => whnf) | (refine Zb (fun h => ?_) (fun h => ?_) <;> first | exact Zx | (conv => whnf))))
        all_goals (try dsimp only [Int.toNat_natCast] at *)
        all_goals first | (exfalso; omega) | skip
        all_goals (refine ⟨j + 1, by omega, by omega, ?_, ?_, ?_, ?_⟩)
        all_goals (try rw [eT])
        all_goals exact Yz
      · have eS : s' = if 0 < seN s j then (s.1 - seN s j, s.2.1.set j (s.2.1.getD j 0 - seN s j), s.2.2 ++ [⟨i, j, seN s j⟩]) else s := by
          rw [eJ]
          unfold seStep
          by_cases h0 : 0 < seN s j
          · rw [if_pos ⟨hw, h0⟩, if_pos h0]
          · rw [if_neg (fun h => h0 h.2), if_neg h0]
        unfold inW at hw
        have eM : (if s.2.1.getD (0 + j) default < s.1 then s.2.1.getD (0 + j) default else s.1) = seN s j := by rw [Nat.zero_add]; rfl
        have q5 : 0 ≤ s.2.1.getD (0 + j) default ∧ s.2.1.getD (0 + j) default ≤ 1000000000 ∧ seN s j ≤ s.2.1.getD (0 + j) default := by rw [Nat.zero_add]; exact ⟨q2.1, q2.2, q4.2.2⟩
        have e0 : s.2.1.getD (0 + j) default = s.2.1.getD j 0 := by rw [Nat.zero_add]; rfl
        (repeat' (first | refine Zs ?_ | refine Zk ?_ | ((first | refine Zas 27 ?_ | refine Zr ?_ | refine Zp ?_ | refine Ze ?_ | refine Zd ?_ | refine Zn ?_ | refine Zc ?_ | refine UnK.mk (fun b hb => ?_)); conv => whnf) | (refine Zb (fun h => ?_) (fun h => ?_) <;> first | exact Zx | (conv => whnf))))
        all_goals (try dsimp only [Int.toNat_natCast] at *)
        (repeat' (first | refine Zs ?_ | refine Zk ?_ | ((first | refine Zas 27 ?_ | refine Zr ?_ | refine Zp ?_ | refine Ze ?_ | refine Zd ?_ | refine Zn ?_ | refine Zc ?_ | refine UnK.mk (fun b hb => ?_)); conv => whnf) | (refine Zb (fun h => ?_) (fun h => ?_) <;> first | exact Zx | (conv => whnf))))
        all_goals (try dsimp only [Int.toNat_natCast] at *)
        all_goals first | (exfalso; omega) | skip
        rw [eM]
        clear eM eJ eN
        generalize seN s j = n at *
        conv => whnf
        (repeat' (first | refine Zs ?_ | refine Zk ?_ | ((first | refine Za ?_ | refine Zr ?_ | refine Zp ?_ | refine Ze ?_ | refine Zd ?_ | refine Zn ?_ | refine Zc ?_ | refine UnK.mk (fun b hb => ?_)); conv => whnf) | (refine Zb (fun h => ?_) (fun h => ?_) <;> first | exact Zx | (conv => whnf))))
        all_goals (try dsimp only [Int.toNat_natCast] at *)
        all_goals first | (exfalso; omega) | skip
        · rw [if_pos (show 0 < n by omega)] at eS
          refine ⟨j + 1, by omega, by omega, ?_, ?_, ?_, ?_⟩
          all_goals (try rw [eT, eS])
          all_goals (repeat' (first | exact trivial | exact Yr | exact Yi (by first | rfl | omega | (simp; done)) | exact Yo (by first | rfl | omega | (simp; done)) | exact Yd | exact Yn | exact Ye (by first | rfl | omega | (simp; done)) | exact ⟨_, rfl, Yf, rfl⟩ | refine ⟨_, rfl, Yb ?_, rfl⟩ | refine ⟨_, rfl, Yw (by first | rfl | omega | (simp; done)) ?_, rfl⟩ | refine And.intro ?_ ?_))
          · have hr := RowIs.set (RowIs.refl iE 1 s.2.1) (k := j) (x := s.2.1.getD j 0 - n) (ds := [.val (.int .i64 (s.2.1.getD (0 + j) default - n))]) rfl (fun q hq => by
              obtain rfl : q = 0 := by omega
              rw [e0]
              exact Dle.refl _)
            have hl := o3.len
            intro a ha b hb
            have := hr.le a (by omega) b hb
            simpa only [Nat.zero_add] using this
          · exact rowF_snoc rfl fun q hq => by
              rcases (show q = 0 ∨ q = 1 ∨ q = 2 by omega) with rfl | rfl | rfl <;> exact Dle.refl _
        · rw [if_neg (show ¬ 0 < n by omega)] at eS
          refine ⟨j + 1, by omega, by omega, ?_, ?_, ?_, ?_⟩
          all_goals (try rw [eT, eS])
          all_goals exact Yz
    obtain rfl : j = es.length := by omega
    (repeat' (first | refine Zs ?_ | refine Zk ?_ | ((first | refine Za ?_ | refine Zr ?_ | refine Zp ?_ | refine Ze ?_ | refine Zd ?_ | refine Zn ?_ | refine Zc ?_ | refine UnK.mk (fun b hb => ?_)); conv => whnf) | (refine Zb (fun h => ?_) (fun h => ?_) <;> first | exact Zx | (conv => whnf))))
    all_goals first | (exfalso; omega) | skip
    refine ⟨i + 1, by omega, by omega, ?_, ?_, ?_, ?_⟩
    all_goals (try rw [eI])
    all_goals exact Yz
  obtain rfl : i = is.length := by omega
  (repeat' (first | refine Zs ?_ | refine Zk ?_ | ((first | refine Za ?_ | refine Zr ?_ | refine Zp ?_ | refine Ze ?_ | refine Zd ?_ | refine Zn ?_ | refine Zc ?_ | refine UnK.mk (fun b hb => ?_)); conv => whnf) | (refine Zb (fun h => ?_) (fun h => ?_) <;> first | exact Zx | (conv => whnf))))
  all_goals first | (exfalso; omega) | ((repeat' (first | exact trivial | exact Zm | exact Zl | exact ResLe.row0 rfl | exact Zi (by first | rfl | omega) | exact Zo (h := by first | rfl | omega) | exact ResLe.bo rfl rfl Iff.rfl | refine ResLe.agg ?_ | refine And.intro ?_ ?_ | ((conv => whnf); first | exact Zl | exact ResLe.row0 rfl | exact Zi (by first | rfl | omega) | exact Zo (h := by first | rfl | omega) | exact ResLe.bo rfl rfl Iff.rfl | refine ResLe.agg ?_ | refine And.intro ?_ ?_))); done)
theorem rsettle_t (is es : List Dt) (af bf : Int) (l1 : is.length ≤ 64) (l2 : es.length ≤ 64) (h1 : dtErr is = 0) (h2 : dtErr es = 0) (haf : 0 ≤ af ∧ af ≤ 36524) (hbf : 0 ≤ bf ∧ bf ≤ 36524) :
    ACalls XX 22 [.dat (dtD is), .dat (dtD es), iA af, iA bf] (.tup [.dat (mtD (seI is es af bf is.length).2), iA 0]) := by
  have k1 := rdated_t is (by omega)
  have k2 := rdated_t es (by omega)
  rw [h1] at k1
  rw [h2] at k2
  refine ACalls.of (n := Try.f22.ntmps) XX_ok Try.func22 rfl (by kernel_rfl) rfl rfl (Nat.le_of_ble_eq_true rfl) ?_
  (repeat' (first | refine Zs ?_ | refine Zk ?_ | ((first | refine Za ?_ | refine Zr ?_ | refine Zp ?_ | refine Ze ?_ | refine Zd ?_ | refine W.drawT dr22 rfl mixed rfl ?_ | refine Zn ?_ | refine Zc ?_ | refine UnK.mk (fun b hb => ?_) | refine Zy k1 ?_ | refine Zz k1 ?_ | refine Zy k2 ?_ | refine Zz k2 ?_); conv => whnf) | (refine Zb (fun h => ?_) (fun h => ?_) <;> first | exact Zx | (conv => whnf))))
  all_goals first | (exfalso; omega) | skip
  refine (W.loopK (ι := Nat) [0, 1, 2, 3, 11] [] (fun k => [(12, iA k)]) (fun k => [(55, .row 3 1 es.length (opF es k))]) (fun k => k ≤ es.length) (fun k => es.length - k) 0 (Nat.zero_le _) ?_ ?_ ?_)
  · exact Yz
  · (repeat' (first | exact trivial | exact Yr | exact Yi (by first | rfl | omega) | exact Yo (by first | rfl | omega) | exact Yd | exact Yn | exact Ye (by first | rfl | omega) | exact ⟨_, rfl, Yf, rfl⟩ | refine ⟨_, rfl, Yb ?_, rfl⟩ | refine ⟨_, rfl, Yw (by first | rfl | omega) ?_, rfl⟩ | refine And.intro ?_ ?_))
    intro i hi j hj
    unfold opF
    rw [if_neg (by omega)]
    obtain rfl : j = 0 := by omega
    exact Dle.refl _
  conv => whnf
  intro k hk
  by_cases hk' : k < es.length
  · (repeat' (first | refine Zs ?_ | refine Zk ?_ | ((first | refine Za ?_ | refine Zr ?_ | refine Zp ?_ | refine Ze ?_ | refine Zd ?_ | refine W.drawT dr22 rfl mixed rfl ?_ | refine Zn ?_ | refine Zc ?_ | refine UnK.mk (fun b hb => ?_)); conv => whnf) | (refine Zb (fun h => ?_) (fun h => ?_) <;> first | exact Zx | (conv => whnf))))
    all_goals (try dsimp only [Int.toNat_natCast] at *)
    (repeat' (first | refine Zs ?_ | refine Zk ?_ | ((first | refine Za ?_ | refine Zr ?_ | refine Zp ?_ | refine Ze ?_ | refine Zd ?_ | refine W.drawT dr22 rfl mixed rfl ?_ | refine Zn ?_ | refine Zc ?_ | refine UnK.mk (fun b hb => ?_)); conv => whnf) | (refine Zb (fun h => ?_) (fun h => ?_) <;> first | exact Zx | (conv => whnf))))
    all_goals (try dsimp only [Int.toNat_natCast] at *)
    all_goals first | (exfalso; omega) | skip
    refine ⟨k + 1, by omega, by omega, ?_, ?_, ?_, ?_⟩
    all_goals (repeat' (first | exact trivial | exact Yr | exact Yi (by first | rfl | omega) | exact Yo (by first | rfl | omega) | exact Yd | exact Yn | exact Ye (by first | rfl | omega) | exact ⟨_, rfl, Yf, rfl⟩ | refine ⟨_, rfl, Yb ?_, rfl⟩ | refine ⟨_, rfl, Yw (by first | rfl | omega) ?_, rfl⟩ | refine And.intro ?_ ?_))
    intro i hi j hj
    simp only [Nat.zero_add]
    exact opF_set es k i j hj
  obtain rfl : k = es.length := by omega
  (repeat' (first | refine Zs ?_ | refine Zk ?_ | ((first | refine Zas 16 ?_ | refine Zr ?_ | refine Zp ?_ | refine Ze ?_ | refine Zd ?_ | refine W.drawT dr22 rfl mixed rfl ?_ | refine Zn ?_ | refine Zc ?_ | refine UnK.mk (fun b hb => ?_)); conv => whnf) | (refine Zb (fun h => ?_) (fun h => ?_) <;> first | exact Zx | (conv => whnf))))
  all_goals first | (exfalso; omega) | skip
  all_goals (conv => whnf)
  refine (W.adopt 13 131 56 3 (rowF mtE []) rfl rfl rfl rfl ?_)
  conv => whnf
  (repeat' (first | refine Zs ?_ | refine Zk ?_ | ((first | refine Za ?_ | refine Zr ?_ | refine Zp ?_ | refine Ze ?_ | refine Zd ?_ | refine W.drawT dr22 rfl mixed rfl ?_ | refine Zn ?_ | refine Zc ?_ | refine UnK.mk (fun b hb => ?_)); conv => whnf) | (refine Zb (fun h => ?_) (fun h => ?_) <;> first | exact Zx | (conv => whnf))))
  refine (W.loopK (ι := Nat) [0, 1, 2, 3, 11] [] (fun i => [(14, iA i), (13, .own 131 3 0 (seI is es af bf i).2.length)]) (fun i => [(55, .row 3 1 es.length (rowF iE (seI is es af bf i).1)), (131, .row 56 3 (seI is es af bf i).2.length (rowF mtE (seI is es af bf i).2))]) (fun i => i ≤ is.length) (fun i => is.length - i) 0 (Nat.zero_le _) ?_ ?_ ?_)
  · exact Yz
  · (repeat' (first | exact trivial | exact Yr | exact Yi (by first | rfl | omega) | exact Yo (by first | rfl | omega) | exact Yd | exact Yn | exact Ye (by first | rfl | omega) | exact ⟨_, rfl, Yf, rfl⟩ | refine ⟨_, rfl, Yb ?_, rfl⟩ | refine ⟨_, rfl, Yw (by first | rfl | omega) ?_, rfl⟩ | refine And.intro ?_ ?_))
    intro i hi j hj
    exact Dle.of_eq (opF_end es i j hi)
  conv => whnf
  intro i hi
  by_cases hi' : i < is.length
  · have o1 := seI_ok h1 h2 af bf i
    have hx := dtErr_getD h1 i
    have eI : seI is es af bf (i + 1) = (seJ (is.getD i default) i es af bf ((is.getD i default).q, seI is es af bf i) es.length).2 := rfl
    have o2 : SOk es.length (es.length * i) ((is.getD i default).q, seI is es af bf i) := ⟨by simp only; omega, o1.len, o1.op, o1.out⟩
    generalize seI is es af bf i = S at *
    have hm : es.length * i ≤ 64 * 64 := Nat.mul_le_mul l2 (by omega)
    (repeat' (first | refine Zs ?_ | refine Zk ?_ | ((first | refine Za ?_ | refine Zr ?_ | refine Zp ?_ | refine Ze ?_ | refine Zd ?_ | refine W.drawT dr22 rfl mixed rfl ?_ | refine Zn ?_ | refine Zc ?_ | refine UnK.mk (fun b hb => ?_)); conv => whnf) | (refine Zb (fun h => ?_) (fun h => ?_) <;> first | exact Zx | (conv => whnf))))
    all_goals (try dsimp only [Int.toNat_natCast] at *)
    (repeat' (first | refine Zs ?_ | refine Zk ?_ | ((first | refine Za ?_ | refine Zr ?_ | refine Zp ?_ | refine Ze ?_ | refine Zd ?_ | refine W.drawT dr22 rfl mixed rfl ?_ | refine Zn ?_ | refine Zc ?_ | refine UnK.mk (fun b hb => ?_)); conv => whnf) | (refine Zb (fun h => ?_) (fun h => ?_) <;> first | exact Zx | (conv => whnf))))
    all_goals (try dsimp only [Int.toNat_natCast] at *)
    all_goals first | (exfalso; omega) | skip
    refine (W.loopK (ι := Nat) [0, 1, 2, 3, 11, 14] [] (fun j => [(16, iA j), (15, iA (seJ (is.getD i default) i es af bf ((is.getD i default).q, S) j).1), (13, .own 131 3 0 (seJ (is.getD i default) i es af bf ((is.getD i default).q, S) j).2.2.length)]) (fun j => [(55, .row 3 1 es.length (rowF iE (seJ (is.getD i default) i es af bf ((is.getD i default).q, S) j).2.1)), (131, .row 56 3 (seJ (is.getD i default) i es af bf ((is.getD i default).q, S) j).2.2.length (rowF mtE (seJ (is.getD i default) i es af bf ((is.getD i default).q, S) j).2.2))]) (fun j => j ≤ es.length) (fun j => es.length - j) 0 (Nat.zero_le _) ?_ ?_ ?_)
    · exact Yz
    · exact Yz
    conv => whnf
    intro j hj
    have o3 := o2.all (is.getD i default) i es af bf j
    by_cases hj' : j < es.length
    · have eJ : seJ (is.getD i default) i es af bf ((is.getD i default).q, S) (j + 1) = seStep (is.getD i default) i es af bf (seJ (is.getD i default) i es af bf ((is.getD i default).q, S) j) j := rfl
      have hy := dtErr_getD h2 j
      obtain ⟨s', eT⟩ : ∃ s', seJ (is.getD i default) i es af bf ((is.getD i default).q, S) (j + 1) = s' := ⟨_, rfl⟩
      rw [eT] at eJ
      generalize seJ (is.getD i default) i es af bf ((is.getD i default).q, S) j = s at *
      have q1 := o3.left
      have q2 := o3.op j
      have q3 := o3.out
      have q4 := seN_rng o3 j
      have eN : seN s j = if s.2.1.getD j 0 < s.1 then s.2.1.getD j 0 else s.1 := rfl
      clear o1 o2 eI
      by_cases hw : inW (is.getD i default) (es.getD j default) af bf
      rotate_left
      · have e1 : s' = s := by rw [eJ]; exact if_neg fun h => hw h.1
        subst e1
        unfold inW at hw
        (repeat' (first | refine Zs ?_ | refine Zk ?_ | ((first | refine Za ?_ | refine Zr ?_ | refine Zp ?_ | refine Ze ?_ | refine Zd ?_ | refine W.drawT dr22 rfl mixed rfl ?_ | refine Zn ?_ | refine Zc ?_ | refine UnK.mk (fun b hb => ?_)); conv => whnf) | (refine Zb (fun h => ?_) (fun h => ?_) <;> first | exact Zx | (conv => whnf))))
        all_goals (try dsimp only [Int.toNat_natCast] at *)
        (repeat' (first | refine Zs ?_ | refine Zk ?_ | ((first | refine Za ?_ | refine Zr ?_ | refine Zp ?_ | refine Ze ?_ | refine Zd ?_ | refine W.drawT dr22 rfl mixed rfl ?_ | refine Zn ?_ | refine Zc ?_ | refine UnK.mk (fun b hb => ?_)); conv => whnf) | (refine Zb (fun h => ?_) (fun h => ?_) <;> first | exact Zx | (conv => whnf))))
        all_goals (try dsimp only [Int.toNat_natCast] at *)
        all_goals first | (exfalso; omega) | skip
        all_goals (refine ⟨j + 1, by omega, by omega, ?_, ?_, ?_, ?_⟩)
        all_goals (try rw [eT])
        all_goals exact Yz
      · have eS : s' = if 0 < seN s j then (s.1 - seN s j, s.2.1.set j (s.2.1.getD j 0 - seN s j), s.2.2 ++ [⟨i, j, seN s j⟩]) else s := by
          rw [eJ]
          unfold seStep
          by_cases h0 : 0 < seN s j
          · rw [if_pos ⟨hw, h0⟩, if_pos h0]
          · rw [if_neg (fun h => h0 h.2), if_neg h0]
        unfold inW at hw
        have eM : (if s.2.1.getD (0 + j) default < s.1 then s.2.1.getD (0 + j) default else s.1) = seN s j := by rw [Nat.zero_add]; rfl
        have q5 : 0 ≤ s.2.1.getD (0 + j) default ∧ s.2.1.getD (0 + j) default ≤ 1000000000 ∧ seN s j ≤ s.2.1.getD (0 + j) default := by rw [Nat.zero_add]; exact ⟨q2.1, q2.2, q4.2.2⟩
        have e0 : s.2.1.getD (0 + j) default = s.2.1.getD j 0 := by rw [Nat.zero_add]; rfl
        (repeat' (first | refine Zs ?_ | refine Zk ?_ | ((first | refine Za ?_ | refine Zr ?_ | refine Zp ?_ | refine Ze ?_ | refine Zd ?_ | refine Zn ?_ | refine Zc ?_ | refine UnK.mk (fun b hb => ?_)); conv => whnf) | (refine Zb (fun h => ?_) (fun h => ?_) <;> first | exact Zx | (conv => whnf))))
        all_goals (try dsimp only [Int.toNat_natCast] at *)
        (repeat' (first | refine Zs ?_ | refine Zk ?_ | ((first | refine Za ?_ | refine Zr ?_ | refine Zp ?_ | refine Ze ?_ | refine Zd ?_ | refine Zn ?_ | refine Zc ?_ | refine UnK.mk (fun b hb => ?_)); conv => whnf) | (refine Zb (fun h => ?_) (fun h => ?_) <;> first | exact Zx | (conv => whnf))))
        all_goals (try dsimp only [Int.toNat_natCast] at *)
        all_goals first | (exfalso; omega) | skip
        rw [eM]
        clear eM eJ eN
        generalize seN s j = n at *
        conv => whnf
        (repeat' (first | refine Zs ?_ | refine Zk ?_ | ((first | refine Za ?_ | refine Zr ?_ | refine Zp ?_ | refine Ze ?_ | refine Zd ?_ | refine W.drawT dr22 rfl mixed rfl ?_ | refine Zn ?_ | refine Zc ?_ | refine UnK.mk (fun b hb => ?_)); conv => whnf) | (refine Zb (fun h => ?_) (fun h => ?_) <;> first | exact Zx | (conv => whnf))))
        all_goals (try dsimp only [Int.toNat_natCast] at *)
        all_goals first | (exfalso; omega) | skip
        · rw [if_pos (show 0 < n by omega)] at eS
          refine ⟨j + 1, by omega, by omega, ?_, ?_, ?_, ?_⟩
          all_goals (try rw [eT, eS])
          all_goals (repeat' (first | exact trivial | exact Yr | exact Yi (by first | rfl | omega | (simp; done)) | exact Yo (by first | rfl | omega | (simp; done)) | exact Yd | exact Yn | exact Ye (by first | rfl | omega | (simp; done)) | exact ⟨_, rfl, Yf, rfl⟩ | refine ⟨_, rfl, Yb ?_, rfl⟩ | refine ⟨_, rfl, Yw (by first | rfl | omega | (simp; done)) ?_, rfl⟩ | refine And.intro ?_ ?_))
          · have hr := RowIs.set (RowIs.refl iE 1 s.2.1) (k := j) (x := s.2.1.getD j 0 - n) (ds := [.val (.int .i64 (s.2.1.getD (0 + j) default - n))]) rfl (fun q hq => by
              obtain rfl : q = 0 := by omega
              rw [e0]
              exact Dle.refl _)
            have hl := o3.len
            intro a ha b hb
            have := hr.le a (by omega) b hb
            simpa only [Nat.zero_add] using this
          · exact rowF_snoc rfl fun q hq => by
              rcases (show q = 0 ∨ q = 1 ∨ q = 2 by omega) with rfl | rfl | rfl <;> exact Dle.refl _
        · rw [if_neg (show ¬ 0 < n by omega)] at eS
          refine ⟨j + 1, by omega, by omega, ?_, ?_, ?_, ?_⟩
          all_goals (try rw [eT, eS])
          all_goals exact Yz
    obtain rfl : j = es.length := by omega
    (repeat' (first | refine Zs ?_ | refine Zk ?_ | ((first | refine Za ?_ | refine Zr ?_ | refine Zp ?_ | refine Ze ?_ | refine Zd ?_ | refine W.drawT dr22 rfl mixed rfl ?_ | refine Zn ?_ | refine Zc ?_ | refine UnK.mk (fun b hb => ?_)); conv => whnf) | (refine Zb (fun h => ?_) (fun h => ?_) <;> first | exact Zx | (conv => whnf))))
    all_goals first | (exfalso; omega) | skip
    refine ⟨i + 1, by omega, by omega, ?_, ?_, ?_, ?_⟩
    all_goals (try rw [eI])
    all_goals exact Yz
  obtain rfl : i = is.length := by omega
  (repeat' (first | refine Zs ?_ | refine Zk ?_ | ((first | refine Za ?_ | refine Zr ?_ | refine Zp ?_ | refine Ze ?_ | refine Zd ?_ | refine W.drawT dr22 rfl mixed rfl ?_ | refine Zn ?_ | refine Zc ?_ | refine UnK.mk (fun b hb => ?_)); conv => whnf) | (refine Zb (fun h => ?_) (fun h => ?_) <;> first | exact Zx | (conv => whnf))))
  all_goals first | (exfalso; omega) | ((repeat' (first | exact trivial | exact Zm | exact Zl | exact ResLe.row0 rfl | exact Zi (by first | rfl | omega) | exact Zo (h := by first | rfl | omega) | exact ResLe.bo rfl rfl Iff.rfl | refine ResLe.agg ?_ | refine And.intro ?_ ?_ | ((conv => whnf); first | exact Zl | exact ResLe.row0 rfl | exact Zi (by first | rfl | omega) | exact Zo (h := by first | rfl | omega) | exact ResLe.bo rfl rfl Iff.rfl | refine ResLe.agg ?_ | refine And.intro ?_ ?_))); done)
end Go.Proofs.Ytoeghejbgibioaa
