/- The reference's Take. -/
import Derived.Test.YtleknjngglhmaaaGreatB16
namespace Go.Proofs.YtleknjngglhmaaaGreat
open Go Go.RowKit
set_option linter.unusedVariables false
set_option linter.unusedSimpArgs false
set_option maxRecDepth 100000
set_option maxHeartbeats 4000000
attribute [local irreducible] ResLe AVle ArgLe ArgP EntLe Dle ResH ArgQ

theorem rshare0_t : ACalls XX 47 [iA 0, .dat (iD [])] (.dat (iD [])) := by
  refine ACalls.of (n := Tryz.f47.ntmps) XX_ok Tryz.func47 rfl (by kernel_rfl) rfl rfl (Nat.le_of_ble_eq_true rfl) ?_
  (repeat' (first | refine Zs ?_ | refine Zk ?_ | ((first | refine Za ?_ | refine Zr ?_ | refine Zp ?_ | refine Ze ?_ | refine Zd ?_ | refine W.drawT dr47 rfl mixed rfl ?_ | refine Zn ?_ | refine Zc ?_ | refine UnK.mk (fun b hb => ?_)); conv => whnf) | (refine Zb (fun h => ?_) (fun h => ?_) <;> first | exact Zx | (conv => whnf))))
  refine (W.loopK (ι := Unit) [0, 1] [] (fun k => [(6, iA 0), (5, iA 0)]) (fun _ => []) (fun k => True) (fun k => 0) () trivial ?_ ?_ ?_)
  · exact Yz
  · exact Yz
  conv => whnf
  intro _ _
  (repeat' (first | refine Zs ?_ | refine Zk ?_ | ((first | refine Za ?_ | refine Zr ?_ | refine Zp ?_ | refine Ze ?_ | refine Zd ?_ | refine W.drawT dr47 rfl mixed rfl ?_ | refine Zn ?_ | refine Zc ?_ | refine UnK.mk (fun b hb => ?_)); conv => whnf) | (refine Zb (fun h => ?_) (fun h => ?_) <;> first | exact Zx | (conv => whnf))))
  refine (W.loopK (ι := Unit) [0, 5, 7, 8] [27] (fun k => []) (fun _ => []) (fun k => True) (fun k => 0) () trivial ?_ ?_ ?_)
  · exact Yz
  · exact Yz
  conv => whnf
  intro _ _
  (repeat' (first | refine Zs ?_ | refine Zk ?_ | ((first | refine Za ?_ | refine Zr ?_ | refine Zp ?_ | refine Ze ?_ | refine Zd ?_ | refine W.drawT dr47 rfl mixed rfl ?_ | refine Zn ?_ | refine Zc ?_ | refine UnK.mk (fun b hb => ?_)); conv => whnf) | (refine Zb (fun h => ?_) (fun h => ?_) <;> first | exact Zx | (conv => whnf))))
  all_goals (try dsimp only [Int.toNat_natCast] at *)
  refine (W.loopK (ι := Unit) [0, 5, 7, 9, 10, 11] [27, 45] (fun k => []) (fun _ => []) (fun k => True) (fun k => 0) () trivial ?_ ?_ ?_)
  · exact Yz
  · exact Yz
  conv => whnf
  intro _ _
  (repeat' (first | refine Zs ?_ | refine Zk ?_ | ((first | refine Za ?_ | refine Zr ?_ | refine Zp ?_ | refine Ze ?_ | refine Zd ?_ | refine W.drawT dr47 rfl mixed rfl ?_ | refine Zn ?_ | refine Zc ?_ | refine UnK.mk (fun b hb => ?_)); conv => whnf) | (refine Zb (fun h => ?_) (fun h => ?_) <;> first | exact Zx | (conv => whnf))))
  all_goals (try dsimp only [Int.toNat_natCast] at *)
  refine (W.loopK (ι := Unit) [9, 10] [45] (fun k => []) (fun _ => []) (fun k => True) (fun k => 0) () trivial ?_ ?_ ?_)
  · exact Yz
  · exact Yz
  conv => whnf
  intro _ _
  (repeat' (first | refine Zs ?_ | refine Zk ?_ | ((first | refine Za ?_ | refine Zr ?_ | refine Zp ?_ | refine Ze ?_ | refine Zd ?_ | refine W.drawT dr47 rfl mixed rfl ?_ | refine Zn ?_ | refine Zc ?_ | refine UnK.mk (fun b hb => ?_)); conv => whnf) | (refine Zb (fun h => ?_) (fun h => ?_) <;> first | exact Zx | (conv => whnf))))
  all_goals first | (exact RowIs.res rfl (RowIs.nil iE 1 _ _ rfl) rfl)
theorem frA_one {x : Sl} {k : Int} (hk : 0 ≤ k ∧ k ≤ lenS x) : frA [x] (max k 0) = (if nz (fstP x k) = true then [fstP x k] else []) ∧ frB [x] (max k 0) = (if nz (sndP x k) = true then [sndP x k] else []) := by
  have e : max k 0 = k := by omega
  have e2 : min k (lenS x) = k := by omega
  unfold frA frB cutA cutB
  rw [e]
  simp only [shL, e2, List.zipWith_cons_cons, List.zipWith_nil_left, List.foldl_cons, List.foldl_nil]
  constructor
  · unfold extL nz
    by_cases h : (fstP x k).s = (fstP x k).e
    · rw [if_pos h, if_neg (by rw [decide_eq_true_eq]; exact fun hh => hh h)]
    · rw [if_neg h, if_pos (by rw [decide_eq_true_eq]; exact h), extR_nil]
  · unfold extL nz
    by_cases h : (sndP x k).s = (sndP x k).e
    · rw [if_pos h, if_neg (by rw [decide_eq_true_eq]; exact fun hh => hh h)]
    · rw [if_neg h, if_pos (by rw [decide_eq_true_eq]; exact h), extR_nil]

theorem rshareAny_t (t : Int) (ws : List Int) (hw : wOk ws) (hn : ws.length ≤ 1000) (ht : 0 ≤ t ∧ t ≤ 1000000000000) (h0 : ws = [] → t = 0) : ACalls XX 47 [iA t, .dat (iD ws)] (.dat (iD (shareL t ws))) := by
  rcases Nat.eq_zero_or_pos ws.length with h | h
  · obtain rfl := List.length_eq_zero_iff.1 h
    obtain rfl := h0 rfl
    exact rshare0_t
  · exact rshare_t t ws hw hn ht h0 h
theorem one_part (J : List Sl) (k : Nat) (h : k < J.length) : AVle (.dat (.lst 3 ((k : Int) + 1 - k).toNat fun i j => rowF slE J ((k : Int).toNat + i) j)) (.dat (slD [J.getD k default])) := AVle.dat (Dle.lst (by simp; try omega) fun i hi j hj => by
  obtain rfl : i = 0 := by omega
  exact Dle.of_eq (by unfold rowF; simp))
theorem rtake_t (us : List Sl) (u m : Int) (hL : us.length ≤ 9223372036854775807) : ACalls XX 15 [.dat (slD us), iA u, iA m] (.tup [.dat (slD (takA us u m)), .dat (slD (takB us u m)), iA (takE us u m)]) := by
  have h1 := rvalid_t us hL
  by_cases e1 : lotErr us = 0
  rotate_left
  · have hE : takE us u m = lotErr us := by unfold takE; rw [if_pos e1]
    have hA : takA us u m = [] := by unfold takA; rw [hE, if_neg e1]
    have hB : takB us u m = [] := by unfold takB; rw [hE, if_neg e1]
    rw [hE, hA, hB]
    refine ACalls.of (n := Tryz.f15.ntmps) XX_ok Tryz.func15 rfl (by kernel_rfl) rfl rfl (Nat.le_of_ble_eq_true rfl) ?_
    (repeat' (first | refine Zs ?_ | refine Zk ?_ | ((first | refine Za ?_ | refine Zr ?_ | refine Zp ?_ | refine Ze ?_ | refine Zd ?_ | refine W.drawT dr15 rfl mixed rfl ?_ | refine Zn ?_ | refine Zc ?_ | refine UnK.mk (fun b hb => ?_) | refine Zy h1 ?_ | refine Zz h1 ?_); conv => whnf) | (refine Zb (fun h => ?_) (fun h => ?_) <;> first | exact Zx | (conv => whnf))))
    all_goals exact Zrz
  obtain ⟨k1, k2, k3⟩ := lotErr_ok e1
  rw [e1] at h1
  have h2 := rcount_t us k2 (by omega)
  by_cases e2 : u < 0 ∨ cnt us < u ∨ ¬ mOk m
  · have hE : takE us u m = 2 := by unfold takE; rw [if_neg (by simpa using e1), if_pos e2]
    have hA : takA us u m = [] := by unfold takA; rw [hE, if_neg (by omega)]
    have hB : takB us u m = [] := by unfold takB; rw [hE, if_neg (by omega)]
    rw [hE, hA, hB]
    unfold mOk at e2
    refine ACalls.of (n := Tryz.f15.ntmps) XX_ok Tryz.func15 rfl (by kernel_rfl) rfl rfl (Nat.le_of_ble_eq_true rfl) ?_
    (repeat' (first | refine Zs ?_ | refine Zk ?_ | ((first | refine Za ?_ | refine Zr ?_ | refine Zp ?_ | refine Ze ?_ | refine Zd ?_ | refine W.drawT dr15 rfl mixed rfl ?_ | refine Zn ?_ | refine Zc ?_ | refine UnK.mk (fun b hb => ?_) | refine Zy h1 ?_ | refine Zz h1 ?_ | refine Zy h2 ?_ | refine Zz h2 ?_); conv => whnf) | (refine Zb (fun h => ?_) (fun h => ?_) <;> first | exact Zx | (conv => whnf))))
    all_goals first | exact Zrz | (exfalso; omega)
  have hm : mOk m := by
    by_cases h : mOk m
    · exact h
    · exact absurd (.inr (.inr h)) e2
  have hu : 0 ≤ u ∧ u ≤ cnt us := by omega
  obtain ⟨hE, hA, hB⟩ := tak_ok e1 hu hm
  rw [hE, hA, hB]
  have hc := cntOk k2 (by omega)
  have hj := join_valid e1
  obtain ⟨j1, j2, j3⟩ := lotErr_iff.1 hj
  have hcj := cnt_join (slOk_le k2)
  have hcl := cnt_le k2
  have h4 := rjoin_t us (by omega)
  rw [joinR_eq (slOk_lt k2)] at h4
  generalize hJ : joinL us = J at *
  rcases hm with rfl | rfl | rfl
  · have h5 := rfront_t J u j2 (by omega) (by omega)
    rw [show max u 0 = u by omega] at h5
    rw [divA1, divB1]
    refine ACalls.of (n := Tryz.f15.ntmps) XX_ok Tryz.func15 rfl (by kernel_rfl) rfl rfl (Nat.le_of_ble_eq_true rfl) ?_
    (repeat' (first | refine Zs ?_ | refine Zk ?_ | ((first | refine Za ?_ | refine Zr ?_ | refine Zp ?_ | refine Ze ?_ | refine Zd ?_ | refine W.drawT dr15 rfl mixed rfl ?_ | refine Zn ?_ | refine Zc ?_ | refine UnK.mk (fun b hb => ?_) | refine Zy h1 ?_ | refine Zz h1 ?_ | refine Zy h2 ?_ | refine Zz h2 ?_ | refine Zy h4 ?_ | refine Zz h4 ?_ | refine Zy h5 ?_ | refine Zz h5 ?_); conv => whnf) | (refine Zb (fun h => ?_) (fun h => ?_) <;> first | exact Zx | (conv => whnf))))
    all_goals exact Zrz
  · have h5 := rfront_t J (cnt us - u) j2 (by omega) (by omega)
    rw [show max (cnt us - u) 0 = cnt us - u by omega] at h5
    rw [divA2, divB2, hcj]
    refine ACalls.of (n := Tryz.f15.ntmps) XX_ok Tryz.func15 rfl (by kernel_rfl) rfl rfl (Nat.le_of_ble_eq_true rfl) ?_
    (repeat' (first | refine Zs ?_ | refine Zk ?_ | ((first | refine Za ?_ | refine Zr ?_ | refine Zp ?_ | refine Ze ?_ | refine Zd ?_ | refine W.drawT dr15 rfl mixed rfl ?_ | refine Zn ?_ | refine Zc ?_ | refine UnK.mk (fun b hb => ?_) | refine Zy h1 ?_ | refine Zz h1 ?_ | refine Zy h2 ?_ | refine Zz h2 ?_ | refine Zy h4 ?_ | refine Zz h4 ?_ | refine Zy h5 ?_ | refine Zz h5 ?_); conv => whnf) | (refine Zb (fun h => ?_) (fun h => ?_) <;> first | exact Zx | (conv => whnf))))
    all_goals exact Zrz
  have hll : (lensL J).length = J.length := by simp [lensL]
  have h6 := rshareAny_t u (lensL J) (lens_ok j2) (by omega) (by omega) (fun he => by
    have : J.length = 0 := by rw [← hll, he]; rfl
    have : J = [] := List.length_eq_zero_iff.1 this
    subst this
    simp [cnt] at hcj
    unfold cnt at hu
    omega)
  obtain ⟨hf, _⟩ := ksM_ok (m := 3) (u := u) j2 (by omega)
  have e3 : ksM 3 J u = shareL u (lensL J) := by unfold ksM; rw [if_pos rfl]
  rw [e3] at hf
  have hks := fits_len hf
  obtain ⟨f1, f2⟩ := fits_mem hf (slOk_le j2)
  rw [divA3, divB3]
  unfold cutA cutB
  generalize shareL u (lensL J) = ks at *
  rw [foldl_extL, foldl_extL]
  obtain ⟨A, hA⟩ : ∃ A : Nat → List Sl, A = fun k => ((List.zipWith fstP J ks).take k).filter nz := ⟨_, rfl⟩
  obtain ⟨B, hB⟩ : ∃ B : Nat → List Sl, B = fun k => ((List.zipWith sndP J ks).take k).filter nz := ⟨_, rfl⟩
  have hA0 : A 0 = [] := by rw [hA]; rfl
  have hB0 : B 0 = [] := by rw [hB]; rfl
  have hAS : ∀ k, k < J.length → A (k + 1) = A k ++ (if nz (fstP (J.getD k default) (ks.getD k default)) = true then [fstP (J.getD k default) (ks.getD k default)] else []) := fun k hk => by
    rw [hA]; exact zip_filter_succ hks hk
  have hBS : ∀ k, k < J.length → B (k + 1) = B k ++ (if nz (sndP (J.getD k default) (ks.getD k default)) = true then [sndP (J.getD k default) (ks.getD k default)] else []) := fun k hk => by
    rw [hB]; exact zip_filter_succ hks hk
  have hAl : ∀ k, (A k).length ≤ k := fun k => by rw [hA]; exact filt_len J ks k
  have hBl : ∀ k, (B k).length ≤ k := fun k => by rw [hB]; exact filt_len J ks k
  have hAe : (List.zipWith fstP J ks).filter nz = A J.length := by rw [hA]; dsimp only; rw [List.take_of_length_le (by rw [List.length_zipWith]; exact Nat.min_le_left _ _)]
  have hBe : (List.zipWith sndP J ks).filter nz = B J.length := by rw [hB]; dsimp only; rw [List.take_of_length_le (by rw [List.length_zipWith]; exact Nat.min_le_left _ _)]
  have hfit : ∀ k, k < J.length → 0 ≤ ks.getD k default ∧ ks.getD k default ≤ lenS (J.getD k default) := fun k hk => fits_at hf hk
  rw [hAe, hBe]
  have j7 := rjoin_t (A J.length) (by have := hAl J.length; omega)
  have j8 := rjoin_t (B J.length) (by have := hBl J.length; omega)
  clear hA hB hAe hBe f1 f2 hf
  refine ACalls.of (n := Tryz.f15.ntmps) XX_ok Tryz.func15 rfl (by kernel_rfl) rfl rfl (Nat.le_of_ble_eq_true rfl) ?_
  (repeat' (first | refine Zs ?_ | refine Zk ?_ | ((first | refine Za ?_ | refine Zr ?_ | refine Zp ?_ | refine Ze ?_ | refine Zd ?_ | refine W.drawT dr15 rfl mixed rfl ?_ | refine Zn ?_ | refine Zc ?_ | refine UnK.mk (fun b hb => ?_) | refine Zy h1 ?_ | refine Zz h1 ?_ | refine Zy h2 ?_ | refine Zz h2 ?_ | refine Zy h4 ?_ | refine Zz h4 ?_); conv => whnf) | (refine Zb (fun h => ?_) (fun h => ?_) <;> first | exact Zx | (conv => whnf))))
  refine (W.adopt 16 90 3 1 (rowF iE []) rfl rfl rfl rfl ?_)
  conv => whnf
  refine (W.loopK (ι := Nat) [1, 11] [] (fun k => [(17, iA k), (16, .own 90 1 0 k)]) (fun k => [(90, .row 3 1 k (rowF iE ((lensL J).take k)))]) (fun k => k ≤ J.length) (fun k => J.length - k) 0 (Nat.zero_le _) ?_ ?_ ?_)
  · exact Yz
  · exact Yz
  conv => whnf
  intro k hk
  by_cases hk' : k < J.length
  · have hx := j2 _ (getD_in hk')
    unfold slOk at hx
    (repeat' (first | refine Zs ?_ | refine Zk ?_ | ((first | refine Za ?_ | refine Zr ?_ | refine Zp ?_ | refine Ze ?_ | refine Zd ?_ | refine W.drawT dr15 rfl mixed rfl ?_ | refine Zn ?_ | refine Zc ?_ | refine UnK.mk (fun b hb => ?_)); conv => whnf) | (refine Zb (fun h => ?_) (fun h => ?_) <;> first | exact Zx | (conv => whnf))))
    all_goals (try dsimp only [Int.toNat_natCast] at *)
    (repeat' (first | refine Zs ?_ | refine Zk ?_ | ((first | refine Za ?_ | refine Zr ?_ | refine Zp ?_ | refine Ze ?_ | refine Zd ?_ | refine W.drawT dr15 rfl mixed rfl ?_ | refine Zn ?_ | refine Zc ?_ | refine UnK.mk (fun b hb => ?_)); conv => whnf) | (refine Zb (fun h => ?_) (fun h => ?_) <;> first | exact Zx | (conv => whnf))))
    refine ⟨k + 1, by omega, by omega, ?_, ?_, ?_, ?_⟩
    all_goals (repeat' (first | exact trivial | exact Yr | exact Yi (by first | rfl | omega) | exact Yo (by first | rfl | omega) | exact Yd | exact Yn | exact Ye (by first | rfl | omega) | exact ⟨_, rfl, Yf, rfl⟩ | refine ⟨_, rfl, Yb ?_, rfl⟩ | refine ⟨_, rfl, Yw (by first | rfl | omega) ?_, rfl⟩ | refine And.intro ?_ ?_))
    · rw [take_snoc (lensL J) k (by omega)]
      refine rowF_snoc (by simp; try omega) fun j hj => ?_
      obtain rfl : j = 0 := by omega
      refine Dle.of_eq ?_
      show D.val (.int .i64 _) = D.val (.int .i64 _)
      congr 2
      simp [lensL, hk', lenS]
  obtain rfl : k = J.length := by omega
  rw [List.take_of_length_le (by omega)]
  have h6 := h6.args2 (a := iA u) (b := .dat (.lst 1 J.length (rowF iE (lensL J)))) (AVle.refl _) (AVle.dat (Dle.lst hll.symm fun _ _ _ _ => Dle.refl _))
  (repeat' (first | refine Zs ?_ | refine Zk ?_ | ((first | refine Za ?_ | refine Zr ?_ | refine Zp ?_ | refine Ze ?_ | refine Zd ?_ | refine W.drawT dr15 rfl mixed rfl ?_ | refine Zn ?_ | refine Zc ?_ | refine UnK.mk (fun b hb => ?_)); conv => whnf) | (refine Zb (fun h => ?_) (fun h => ?_) <;> first | exact Zx | (conv => whnf))))
  refine ExCall.pub 90 rfl ?_
  conv => whnf
  (repeat' (first | refine Zs ?_ | refine Zk ?_ | ((first | refine Za ?_ | refine Zr ?_ | refine Zp ?_ | refine Ze ?_ | refine Zd ?_ | refine W.drawT dr15 rfl mixed rfl ?_ | refine Zn ?_ | refine Zc ?_ | refine UnK.mk (fun b hb => ?_) | refine Zq h6 ?_ | refine Zw h6 ?_); conv => whnf) | (refine Zb (fun h => ?_) (fun h => ?_) <;> first | exact Zx | (conv => whnf))))
  refine (W.adopt 19 115 72 3 (rowF slE []) rfl rfl rfl rfl ?_)
  conv => whnf
  refine (W.adopt 20 118 72 3 (rowF slE []) rfl rfl rfl rfl ?_)
  conv => whnf
  refine (W.loopK (ι := Nat) [11, 18] [] (fun k => [(21, iA k), (19, .own 115 3 0 (A k).length), (20, .own 118 3 0 (B k).length)]) (fun k => [(115, .row 72 3 (A k).length (rowF slE (A k))), (118, .row 72 3 (B k).length (rowF slE (B k)))]) (fun k => k ≤ J.length) (fun k => J.length - k) 0 (Nat.zero_le _) ?_ ?_ ?_)
  · (repeat' (first | exact trivial | exact Yr | exact Yi (by first | rfl | (rw [hA0]; rfl) | (rw [hB0]; rfl) | omega) | exact Yo (by first | rfl | (rw [hA0]; rfl) | (rw [hB0]; rfl) | omega) | exact Yd | exact Yn | exact Ye (by first | rfl | (rw [hA0]; rfl) | (rw [hB0]; rfl) | omega) | exact ⟨_, rfl, Yf, rfl⟩ | refine ⟨_, rfl, Yb ?_, rfl⟩ | refine ⟨_, rfl, Yw (by first | rfl | (rw [hA0]; rfl) | (rw [hB0]; rfl) | omega) ?_, rfl⟩ | refine And.intro ?_ ?_))
  · (repeat' (first | exact trivial | exact Yr | exact Yi (by first | rfl | (rw [hA0]; rfl) | (rw [hB0]; rfl) | omega) | exact Yo (by first | rfl | (rw [hA0]; rfl) | (rw [hB0]; rfl) | omega) | exact Yd | exact Yn | exact Ye (by first | rfl | (rw [hA0]; rfl) | (rw [hB0]; rfl) | omega) | exact ⟨_, rfl, Yf, rfl⟩ | refine ⟨_, rfl, Yb ?_, rfl⟩ | refine ⟨_, rfl, Yw (by first | rfl | (rw [hA0]; rfl) | (rw [hB0]; rfl) | omega) ?_, rfl⟩ | refine And.intro ?_ ?_))
    all_goals (intro i hi; exact absurd hi (Nat.not_lt_zero _))
  conv => whnf
  intro k hk
  have hAk := hAl k
  have hBk := hBl k
  by_cases hk' : k < J.length
  · have hfk := hfit k hk'
    have h5 := rfront_t [J.getD k default] (ks.getD k default) (fun y hy => by rw [List.mem_singleton.1 hy]; exact j2 _ (getD_in hk')) (by simp) (by have := j2 _ (getD_in hk'); unfold slOk at this; unfold lenS at hfk; omega)
    obtain ⟨g1, g2⟩ := frA_one hfk
    rw [g1, g2] at h5
    have ea := hAS k hk'
    have eb := hBS k hk'
    have hA1 := hAl (k + 1)
    have hB1 := hBl (k + 1)
    generalize (if nz (fstP (J.getD k default) (ks.getD k default)) = true then [fstP (J.getD k default) (ks.getD k default)] else []) = pa at *
    generalize (if nz (sndP (J.getD k default) (ks.getD k default)) = true then [sndP (J.getD k default) (ks.getD k default)] else []) = pb at *
    have la : (A (k + 1)).length = (A k).length + pa.length := by rw [ea, List.length_append]
    have lb : (B (k + 1)).length = (B k).length + pb.length := by rw [eb, List.length_append]
    have h5 := h5.args2 (one_part J k hk') (AVle.refl _)
    (repeat' (first | refine Zs ?_ | refine Zk ?_ | ((first | refine Za ?_ | refine Zr ?_ | refine Zp ?_ | refine Ze ?_ | refine Zd ?_ | refine W.drawT dr15 rfl mixed rfl ?_ | refine Zn ?_ | refine Zc ?_ | refine UnK.mk (fun b hb => ?_)); conv => whnf) | (refine Zb (fun h => ?_) (fun h => ?_) <;> first | exact Zx | (conv => whnf))))
    all_goals (try dsimp only [Int.toNat_natCast] at *)
    (repeat' (first | refine Zs ?_ | refine Zk ?_ | ((first | refine Za ?_ | refine Zr ?_ | refine Zp ?_ | refine Ze ?_ | refine Zd ?_ | refine W.drawT dr15 rfl mixed rfl ?_ | refine Zn ?_ | refine Zc ?_ | refine UnK.mk (fun b hb => ?_) | refine Zy h5 ?_ | refine Zz h5 ?_); conv => whnf) | (refine Zb (fun h => ?_) (fun h => ?_) <;> first | exact Zx | (conv => whnf))))
    refine ⟨k + 1, by omega, by omega, ?_, ?_, ?_, ?_⟩
    all_goals (repeat' (first | exact trivial | exact Yr | exact Yi (by first | rfl | exact la.symm | exact lb.symm | omega) | exact Yo (by first | rfl | exact la.symm | exact lb.symm | omega) | exact Yd | exact Yn | exact Ye (by first | rfl | exact la.symm | exact lb.symm | omega) | exact ⟨_, rfl, Yf, rfl⟩ | refine ⟨_, rfl, Yb ?_, rfl⟩ | refine ⟨_, rfl, Yw (by first | rfl | exact la.symm | exact lb.symm | omega) ?_, rfl⟩ | refine And.intro ?_ ?_))
    · rw [ea]; exact rowF_app rfl fun i hi j hj => Dle.refl _
    · rw [eb]; exact rowF_app rfl fun i hi j hj => Dle.refl _
  · obtain rfl : k = J.length := by omega
    (repeat' (first | refine Zs ?_ | refine Zk ?_ | ((first | refine Za ?_ | refine Zr ?_ | refine Zp ?_ | refine Ze ?_ | refine Zd ?_ | refine W.drawT dr15 rfl mixed rfl ?_ | refine Zn ?_ | refine Zc ?_ | refine UnK.mk (fun b hb => ?_)); conv => whnf) | (refine Zb (fun h => ?_) (fun h => ?_) <;> first | exact Zx | (conv => whnf))))
    refine ExCall.pub 115 rfl ?_
    conv => whnf
    (repeat' (first | refine Zs ?_ | refine Zk ?_ | ((first | refine Za ?_ | refine Zr ?_ | refine Zp ?_ | refine Ze ?_ | refine Zd ?_ | refine W.drawT dr15 rfl mixed rfl ?_ | refine Zn ?_ | refine Zc ?_ | refine UnK.mk (fun b hb => ?_) | refine Zq j7 ?_ | refine Zw j7 ?_); conv => whnf) | (refine Zb (fun h => ?_) (fun h => ?_) <;> first | exact Zx | (conv => whnf))))
    refine ExCall.pub 118 rfl ?_
    conv => whnf
    (repeat' (first | refine Zs ?_ | refine Zk ?_ | ((first | refine Za ?_ | refine Zr ?_ | refine Zp ?_ | refine Ze ?_ | refine Zd ?_ | refine W.drawT dr15 rfl mixed rfl ?_ | refine Zn ?_ | refine Zc ?_ | refine UnK.mk (fun b hb => ?_) | refine Zq j8 ?_ | refine Zw j8 ?_); conv => whnf) | (refine Zb (fun h => ?_) (fun h => ?_) <;> first | exact Zx | (conv => whnf))))
    all_goals exact Zrz



end Go.Proofs.YtleknjngglhmaaaGreat
