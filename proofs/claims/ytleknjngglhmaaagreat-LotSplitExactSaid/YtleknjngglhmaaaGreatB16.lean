/- The reference's front and Take. -/
import Derived.Test.YtleknjngglhmaaaGreatB15
namespace Go.Proofs.YtleknjngglhmaaaGreat
open Go Go.RowKit
set_option linter.unusedVariables false
set_option linter.unusedSimpArgs false
set_option maxRecDepth 100000
set_option maxHeartbeats 4000000
attribute [local irreducible] ResLe AVle ArgLe ArgP EntLe Dle ResH ArgQ

theorem shL_clamp : ∀ {us : List Sl} (n : Int) (_ : ∀ y ∈ us, y.s ≤ y.e) {k : Nat} (_ : k < us.length), (shL us (max n 0)).getD k default = min (max (n - cnt (us.take k)) 0) (lenS (us.getD k default))
  | [], n, _, k, h => by simp at h
  | x :: l, n, hv, 0, h => by simp [shL, cnt_nil]
  | x :: l, n, hv, k + 1, h => by
    have hx := hv x (by simp)
    have ih := shL_clamp (n - lenS x) (fun y hy => hv y (List.mem_cons_of_mem _ hy)) (k := k) (by simpa using h)
    have e : max n 0 - min (max n 0) (lenS x) = max (n - lenS x) 0 := by unfold lenS; omega
    have e2 : n - (lenS x + cnt (l.take k)) = n - lenS x - cnt (l.take k) := by omega
    rw [← e] at ih
    simp only [shL, List.take_succ_cons, cnt_cons, e2]
    simpa using ih
theorem zip_filter_succ {f : Sl → Int → Sl} {us : List Sl} {ks : List Int} (hl : ks.length = us.length) {k : Nat} (hk : k < us.length) : ((List.zipWith f us ks).take (k + 1)).filter nz = ((List.zipWith f us ks).take k).filter nz ++ (if nz (f (us.getD k default) (ks.getD k default)) = true then [f (us.getD k default) (ks.getD k default)] else []) := by
  rw [take_snoc _ _ (by simp; omega), List.filter_append, zip_at hl hk]
  congr 1
  by_cases h : nz (f (us.getD k default) (ks.getD k default)) = true
  · rw [if_pos h, List.filter_cons_of_pos h, List.filter_nil]
  · rw [if_neg h, List.filter_cons_of_neg h, List.filter_nil]
theorem filt_len {f : Sl → Int → Sl} (us : List Sl) (ks : List Int) (k : Nat) : (((List.zipWith f us ks).take k).filter nz).length ≤ k := by
  have h1 := List.length_filter_le nz ((List.zipWith f us ks).take k)
  have h2 := List.length_take_le k (List.zipWith f us ks)
  omega
theorem rfront_t (us : List Sl) (n : Int) (hv : ∀ y ∈ us, slOk y) (hL : us.length ≤ 100000) (hn : -100000000000000 ≤ n ∧ n ≤ 4611686018427387904) : ACalls XX 46 [.dat (slD us), iA n] (.tup [.dat (slD (frA us (max n 0))), .dat (slD (frB us (max n 0)))]) := by
  have hlen := shL_len us (max n 0)
  have hcl := fun k (hk : k < us.length) => shL_clamp n (slOk_le hv) hk
  obtain ⟨ks, hks⟩ : ∃ ks, ks = shL us (max n 0) := ⟨_, rfl⟩
  rw [← hks] at hlen hcl
  have hA1 : frA us (max n 0) = (((List.zipWith fstP us ks).take us.length).filter nz).foldl extR [] := by
    rw [← foldl_extL, hks]
    have : (List.zipWith fstP us (shL us (max n 0))).take us.length = List.zipWith fstP us (shL us (max n 0)) := List.take_of_length_le (by rw [List.length_zipWith]; exact Nat.min_le_left _ _)
    rw [this]; rfl
  have hB1 : frB us (max n 0) = (((List.zipWith sndP us ks).take us.length).filter nz).foldl extR [] := by
    rw [← foldl_extL, hks]
    have : (List.zipWith sndP us (shL us (max n 0))).take us.length = List.zipWith sndP us (shL us (max n 0)) := List.take_of_length_le (by rw [List.length_zipWith]; exact Nat.min_le_left _ _)
    rw [this]; rfl
  obtain ⟨A, hA⟩ : ∃ A : Nat → List Sl, A = fun k => ((List.zipWith fstP us ks).take k).filter nz := ⟨_, rfl⟩
  obtain ⟨B, hB⟩ : ∃ B : Nat → List Sl, B = fun k => ((List.zipWith sndP us ks).take k).filter nz := ⟨_, rfl⟩
  have hA0 : A 0 = [] := by rw [hA]; rfl
  have hB0 : B 0 = [] := by rw [hB]; rfl
  have hAS : ∀ k, k < us.length → A (k + 1) = A k ++ (if nz (fstP (us.getD k default) (ks.getD k default)) = true then [fstP (us.getD k default) (ks.getD k default)] else []) := fun k hk => by
    rw [hA]; exact zip_filter_succ hlen hk
  have hBS : ∀ k, k < us.length → B (k + 1) = B k ++ (if nz (sndP (us.getD k default) (ks.getD k default)) = true then [sndP (us.getD k default) (ks.getD k default)] else []) := fun k hk => by
    rw [hB]; exact zip_filter_succ hlen hk
  have hAl : ∀ k, (A k).length ≤ k := fun k => by rw [hA]; exact filt_len us ks k
  have hBl : ∀ k, (B k).length ≤ k := fun k => by rw [hB]; exact filt_len us ks k
  have j1 := rjoin_t (A us.length) (by have := hAl us.length; omega)
  have j2 := rjoin_t (B us.length) (by have := hBl us.length; omega)
  have hA2 : (((List.zipWith fstP us ks).take us.length).filter nz) = A us.length := by rw [hA]
  have hB2 : (((List.zipWith sndP us ks).take us.length).filter nz) = B us.length := by rw [hB]
  rw [hA1, hB1, hA2, hB2]
  clear hA hB hA1 hB1 hA2 hB2 hks
  refine ACalls.of (n := Tryz.f46.ntmps) XX_ok Tryz.func46 rfl (by kernel_rfl) rfl rfl (Nat.le_of_ble_eq_true rfl) ?_
  (repeat' (first | refine Zs ?_ | refine Zk ?_ | ((first | refine Za ?_ | refine Zr ?_ | refine Zp ?_ | refine Ze ?_ | refine Zd ?_ | refine Zn ?_ | refine Zc ?_ | refine UnK.mk (fun b hb => ?_)); conv => whnf) | (refine Zb (fun h => ?_) (fun h => ?_) <;> first | exact Zx | (conv => whnf))))
  refine (W.adopt 6 49 72 3 (rowF slE []) rfl rfl rfl rfl ?_)
  conv => whnf
  refine (W.adopt 7 68 72 3 (rowF slE []) rfl rfl rfl rfl ?_)
  conv => whnf
  refine (W.loopK (ι := Nat) [0] [] (fun k => [(8, iA k), (1, iA (n - cnt (us.take k))), (6, .own 49 3 0 (A k).length), (7, .own 68 3 0 (B k).length)]) (fun k => [(49, .row 72 3 (A k).length (rowF slE (A k))), (68, .row 72 3 (B k).length (rowF slE (B k)))]) (fun k => k ≤ us.length) (fun k => us.length - k) 0 (Nat.zero_le _) ?_ ?_ ?_)
  · (repeat' (first | exact trivial | exact Yr | exact Yi (by first | rfl | (rw [hA0]; rfl) | (rw [hB0]; rfl) | (simp [cnt_nil]; done) | omega) | exact Yo (by first | rfl | (rw [hA0]; rfl) | (rw [hB0]; rfl) | (simp [cnt_nil]; done) | omega) | exact Yd | exact Yn | exact Ye (by first | rfl | (rw [hA0]; rfl) | (rw [hB0]; rfl) | (simp [cnt_nil]; done) | omega) | exact ⟨_, rfl, Yf, rfl⟩ | refine ⟨_, rfl, Yb ?_, rfl⟩ | refine ⟨_, rfl, Yw (by first | rfl | (rw [hA0]; rfl) | (rw [hB0]; rfl) | (simp [cnt_nil]; done) | omega) ?_, rfl⟩ | refine And.intro ?_ ?_))
  · (repeat' (first | exact trivial | exact Yr | exact Yi (by first | rfl | (rw [hA0]; rfl) | (rw [hB0]; rfl) | omega) | exact Yo (by first | rfl | (rw [hA0]; rfl) | (rw [hB0]; rfl) | omega) | exact Yd | exact Yn | exact Ye (by first | rfl | (rw [hA0]; rfl) | (rw [hB0]; rfl) | omega) | exact ⟨_, rfl, Yf, rfl⟩ | refine ⟨_, rfl, Yb ?_, rfl⟩ | refine ⟨_, rfl, Yw (by first | rfl | (rw [hA0]; rfl) | (rw [hB0]; rfl) | omega) ?_, rfl⟩ | refine And.intro ?_ ?_))
    all_goals (intro i hi; exact absurd hi (Nat.not_lt_zero _))
  conv => whnf
  intro k hk
  have hr := cnt_rng hv k
  by_cases hk' : k < us.length
  · have hx := hv _ (getD_in hk')
    have hc := hcl k hk'
    have ht := cnt_take us k hk'
    have ea := hAS k hk'
    have eb := hBS k hk'
    have la := hAl k
    have lb := hBl k
    generalize ks.getD k default = q at *
    unfold slOk at hx
    unfold lenS at hc ht
    unfold nz fstP at ea
    unfold nz sndP at eb
    have hq : (if (us.getD k default).e - (us.getD k default).s < (if n - cnt (us.take k) < 0 then 0 else n - cnt (us.take k)) then (us.getD k default).e - (us.getD k default).s else (if n - cnt (us.take k) < 0 then 0 else n - cnt (us.take k))) = q := by
      rw [hc]
      split <;> split at * <;> omega
    have hq0 : 0 ≤ q ∧ q ≤ (us.getD k default).e - (us.getD k default).s := by rw [hc]; omega
    clear hc
    (repeat' (first | refine Zs ?_ | refine Zk ?_ | ((first | refine Za ?_ | refine Zr ?_ | refine Zp ?_ | refine Ze ?_ | refine Zd ?_ | refine Zn ?_ | refine Zc ?_ | refine UnK.mk (fun b hb => ?_)); conv => whnf) | (refine Zb (fun h => ?_) (fun h => ?_) <;> first | exact Zx | (conv => whnf))))
    all_goals (try dsimp only [Int.toNat_natCast] at *)
    (repeat' (first | refine Zs ?_ | refine Zk ?_ | ((first | refine Za ?_ | refine Zr ?_ | refine Zp ?_ | refine Ze ?_ | refine Zd ?_ | refine Zn ?_ | refine Zc ?_ | refine UnK.mk (fun b hb => ?_)); conv => whnf) | (refine Zb (fun h => ?_) (fun h => ?_) <;> first | exact Zx | (conv => whnf))))
    all_goals (simp only [hq] at *)
    all_goals (first | (exfalso; omega) | skip)
    all_goals (first | rw [if_pos (by rw [decide_eq_true_eq]; omega)] at ea | rw [if_neg (by rw [decide_eq_true_eq]; omega), List.append_nil] at ea)
    all_goals (first | rw [if_pos (by rw [decide_eq_true_eq]; omega)] at eb | rw [if_neg (by rw [decide_eq_true_eq]; omega), List.append_nil] at eb)
    all_goals (refine ⟨k + 1, by omega, by omega, ?_, ?_, ?_, ?_⟩)
    all_goals (repeat' (first | exact trivial | exact Yr | exact Yi (by first | rfl | (rw [ea]; done) | (rw [eb]; done) | (rw [ea]; simp; done) | (rw [eb]; simp; done) | omega) | exact Yo (by first | rfl | (rw [ea]; done) | (rw [eb]; done) | (rw [ea]; simp; done) | (rw [eb]; simp; done) | omega) | exact Yd | exact Yn | exact Ye (by first | rfl | (rw [ea]; done) | (rw [eb]; done) | (rw [ea]; simp; done) | (rw [eb]; simp; done) | omega) | exact ⟨_, rfl, Yf, rfl⟩ | refine ⟨_, rfl, Yb ?_, rfl⟩ | refine ⟨_, rfl, Yw (by first | rfl | (rw [ea]; done) | (rw [eb]; done) | (rw [ea]; simp; done) | (rw [eb]; simp; done) | omega) ?_, rfl⟩ | refine And.intro ?_ ?_))
    all_goals first
      | (rw [ea]; refine rowF_snoc rfl fun j hj => ?_; rcases j with _ | _ | _ | j <;> first | exact Dle.refl _ | omega)
      | (rw [eb]; refine rowF_snoc rfl fun j hj => ?_; rcases j with _ | _ | _ | j <;> first | exact Dle.refl _ | omega)
      | (rw [ea]; exact fun _ _ _ _ => Dle.refl _)
      | (rw [eb]; exact fun _ _ _ _ => Dle.refl _)
      | (refine AVle.int ?_; omega)
      | (refine AVle.int ?_; rw [ht]; omega)
  · obtain rfl : k = us.length := by omega
    (repeat' (first | refine Zs ?_ | refine Zk ?_ | ((first | refine Za ?_ | refine Zr ?_ | refine Zp ?_ | refine Ze ?_ | refine Zd ?_ | refine Zn ?_ | refine Zc ?_ | refine UnK.mk (fun b hb => ?_)); conv => whnf) | (refine Zb (fun h => ?_) (fun h => ?_) <;> first | exact Zx | (conv => whnf))))
    refine ExCall.pub 49 rfl ?_
    conv => whnf
    (repeat' (first | refine Zs ?_ | refine Zk ?_ | ((first | refine Za ?_ | refine Zr ?_ | refine Zp ?_ | refine Ze ?_ | refine Zd ?_ | refine Zn ?_ | refine Zc ?_ | refine UnK.mk (fun b hb => ?_) | refine Zq j1 ?_); conv => whnf) | (refine Zb (fun h => ?_) (fun h => ?_) <;> first | exact Zx | (conv => whnf))))
    refine ExCall.pub 68 rfl ?_
    conv => whnf
    (repeat' (first | refine Zs ?_ | refine Zk ?_ | ((first | refine Za ?_ | refine Zr ?_ | refine Zp ?_ | refine Ze ?_ | refine Zd ?_ | refine Zn ?_ | refine Zc ?_ | refine UnK.mk (fun b hb => ?_) | refine Zq j2 ?_); conv => whnf) | (refine Zb (fun h => ?_) (fun h => ?_) <;> first | exact Zx | (conv => whnf))))
    all_goals first | exact Zrz

end Go.Proofs.YtleknjngglhmaaaGreat
