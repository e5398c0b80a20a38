/- Lists of slices: shares, cuts, divided from the front and from the back; the reference's. -/
import Derived.Test.YtojkeidijdcfoaaGreatDoorB1
namespace Go.Proofs.YtojkeidijdcfoaaGreatDoor
open Go Go.RowKit
set_option linter.unusedVariables false
set_option linter.unusedSimpArgs false
set_option maxRecDepth 100000
set_option maxHeartbeats 4000000
attribute [local irreducible] ResLe AVle ArgLe ArgP EntLe Dle ResH ArgQ

theorem ACalls.args {X : Cx} {f : FuncId} {cs ds : List AV} {r : AV} (h : ACalls X f ds r) (hle : AVsLe cs ds) : ACalls X f cs r := by
  obtain ⟨h1, h2⟩ := AVsLe_at hle
  exact ⟨h.fn, fun M w vs hg hp hl hd => h.out M w vs hg hp (by omega) fun i d v e1 e2 => by
    obtain ⟨c, e3, e4⟩ := h2 i d e1
    unfold AVle at e4
    exact fun ρ => e4 ρ M v (hd i c v e3 e2 ρ)⟩
theorem llD_one (us : List Sl) : AVle (.dat (.lst 1 1 fun i j => pickF (tabB 1 1) [slD us] (i * 1 + j))) (.dat (llD [us])) := AVle.dat (Dle.lst rfl fun i hi j hj => by
  obtain rfl : i = 0 := by omega
  obtain rfl : j = 0 := by omega
  exact Dle.refl _)
theorem join1_t (us : List Sl) (hn : us.length ≤ 100000) : ACalls XX 52 [.dat (.lst 1 1 fun i j => pickF (tabB 1 1) [slD us] (i * 1 + j))] (.dat (slD (joinL us))) := by
  have h := join_t [us] (by simp) (by simpa using hn)
  rw [List.flatten_singleton] at h
  exact h.args ⟨llD_one us, trivial⟩
theorem fill_row {F : Nat → Int} {n k : Nat} {v : Int} (hv : v = F k) : ∀ i, i < n → ∀ j, j < 1 → Dle (setF (rowF iE (fillL F n k)) k 0 [.val (.int .i64 v)] i j) (rowF iE (fillL F n (k + 1)) i j) := by
  have h := ((RowIs.refl iE 1 (fillL F n k)).set (k := k) (x := F k) (ds := [.val (.int .i64 v)]) rfl fun j hj => by
    obtain rfl : j = 0 := by omega
    subst hv
    exact Dle.refl _)
  rw [fillL_set] at h
  intro i hi j hj
  exact h.le i (by rw [fillL_len]; exact hi) j hj
theorem fill_zero {F : Nat → Int} {n : Nat} {f : Nat → Nat → D} (hf : ∀ i j, j < 1 → f i j = .val (.int .i64 0)) : ∀ i, i < n → ∀ j, j < 1 → Dle (f i j) (rowF iE (fillL F n 0) i j) := by
  intro i hi j hj
  rw [hf i j hj]
  unfold rowF iE
  have : (fillL F n 0).getD i default = 0 := fillL_zero F n i
  rw [this]
  exact Dle.refl _
theorem sum_take_rng {us : List Sl} {u : Int} (h : ∀ y ∈ us, slOk y) (hu : 0 ≤ u) (k : Nat) : 0 ≤ u - ((shL us u).take k).sum ∧ 0 ≤ ((shL us u).take k).sum := by
  induction us generalizing u k with
  | nil => simp [shL]; exact hu
  | cons x l ih =>
    have hx := h x (by simp)
    unfold slOk at hx
    cases k with
    | zero => simp; exact hu
    | succ k =>
      have := ih (u := u - min u (lenS x)) (fun y hy => h y (by simp [hy])) (by unfold lenS; omega) k
      simp only [shL, List.take_succ_cons, List.sum_cons]
      unfold lenS at this ⊢
      omega
theorem shares_t (us : List Sl) (u : Int) (hv : ∀ y ∈ us, slOk y) (hL : us.length ≤ 100000) (hu : 0 ≤ u ∧ u ≤ 4611686018427387904) : ACalls XX 95 [.dat (slD us), iA u] (.dat (iD (shL us u))) := by
  obtain ⟨F, hF⟩ : ∃ F : Nat → Int, F = fun i => (shL us u).getD i 0 := ⟨_, rfl⟩
  have hfull : fillL F us.length us.length = shL us u := by
    have e := map_getD0 (shL us u)
    rw [shL_len] at e
    rw [fillL_full, hF, e]
  rw [← hfull]
  refine ACalls.of (n := Tryz.f95.ntmps) XX_ok Tryz.func95 rfl (by kernel_rfl) rfl rfl (Nat.le_of_ble_eq_true rfl) ?_
  (repeat' (first | refine Zs ?_ | refine Zk ?_ | ((first | refine Za ?_ | refine Zr ?_ | refine Zp ?_ | refine Ze ?_ | refine Zd ?_ | refine Zn ?_ | refine Zc ?_ | refine UnK.mk (fun b hb => ?_)); conv => whnf) | (refine Zb (fun h => ?_) (fun h => ?_) <;> first | exact Zx | (conv => whnf))))
  all_goals (try dsimp only [Int.toNat_natCast] at *)
  refine (W.loopK (ι := Nat) [5, 11, 12] [] (fun k => [(13, iA k), (1, iA (u - ((shL us u).take k).sum))]) (fun k => [(10, .row 3 1 us.length (rowF iE (fillL F us.length k)))]) (fun k => k ≤ us.length) (fun k => us.length - k) 0 (Nat.zero_le _) ?_ ?_ ?_)
  · (repeat' (first | exact trivial | exact Yr | exact Yi (by first | rfl | (simp; done) | omega) | exact Yo (by first | rfl | (simp; done) | omega) | exact Yd | exact Yn | exact Ye (by first | rfl | (simp; done) | omega) | exact ⟨_, rfl, Yf, rfl⟩ | refine ⟨_, rfl, Yb ?_, rfl⟩ | refine ⟨_, rfl, Yw (by first | rfl | (simp; done) | omega) ?_, rfl⟩ | refine And.intro ?_ ?_))
  · (repeat' (first | exact trivial | exact Yr | exact Yi (by first | rfl | omega) | exact Yo (by first | rfl | omega) | exact Yd | exact Yn | exact Ye (by first | rfl | omega) | exact ⟨_, rfl, Yf, rfl⟩ | refine ⟨_, rfl, Yb ?_, rfl⟩ | refine ⟨_, rfl, Yw (by first | rfl | omega) ?_, rfl⟩ | refine And.intro ?_ ?_))
    exact fill_zero fun i j hj => by obtain rfl : j = 0 := by omega
                                     rfl
  conv => whnf
  intro k hk
  have hr := sum_take_rng hv hu.1 k
  by_cases hk' : k < us.length
  · have hx := hv _ (getD_in hk')
    obtain ⟨r, h1, h2⟩ := shL_at us u k hk'
    have h3 := sum_take0 (shL us u) k (by rw [shL_len]; exact hk')
    have hFk : F k = min r (lenS (us.getD k default)) := by rw [hF]; exact h1
    unfold slOk at hx
    unfold lenS at h1 hFk
    (repeat' (first | refine Zs ?_ | refine Zk ?_ | ((first | refine Za ?_ | refine Zr ?_ | refine Zp ?_ | refine Ze ?_ | refine Zd ?_ | refine Zn ?_ | refine Zc ?_ | refine UnK.mk (fun b hb => ?_)); conv => whnf) | (refine Zb (fun h => ?_) (fun h => ?_) <;> first | exact Zx | (conv => whnf))))
    all_goals (try dsimp only [Int.toNat_natCast] at *)
    (repeat' (first | refine Zs ?_ | refine Zk ?_ | ((first | refine Za ?_ | refine Zr ?_ | refine Zp ?_ | refine Ze ?_ | refine Zd ?_ | refine Zn ?_ | refine Zc ?_ | refine UnK.mk (fun b hb => ?_)); conv => whnf) | (refine Zb (fun h => ?_) (fun h => ?_) <;> first | exact Zx | (conv => whnf))))
    have hm : (if (us.getD k default).e - (us.getD k default).s < u - ((shL us u).take k).sum then (us.getD k default).e - (us.getD k default).s else u - ((shL us u).take k).sum) = F k := by rw [hFk, h2]; split <;> omega
    have hF0 : 0 ≤ F k ∧ F k ≤ u - ((shL us u).take k).sum := by rw [hFk]; omega
    refine NumK.as (u - ((shL us u).take k).sum - F k) ?_ ?_
    · rw [if_pos ⟨rfl, Nat.le_refl _, Nat.zero_lt_succ _⟩, hm]
      exact wrapOk (by omega)
    conv => whnf
    (repeat' (first | refine Zs ?_ | refine Zk ?_ | ((first | refine Za ?_ | refine Zr ?_ | refine Zp ?_ | refine Ze ?_ | refine Zd ?_ | refine Zn ?_ | refine Zc ?_ | refine UnK.mk (fun b hb => ?_)); conv => whnf) | (refine Zb (fun h => ?_) (fun h => ?_) <;> first | exact Zx | (conv => whnf))))
    have hs : (shL us u).getD k 0 = F k := by rw [hF]
    refine ⟨k + 1, by omega, by omega, ?_, ?_, ?_, ?_⟩ <;> (repeat' (first | exact trivial | exact Yr | exact Yi (by first | rfl | omega) | exact Yo (by first | rfl | omega) | exact Yd | exact Yn | exact Ye (by first | rfl | omega) | exact ⟨_, rfl, Yf, rfl⟩ | refine ⟨_, rfl, Yb ?_, rfl⟩ | refine ⟨_, rfl, Yw (by first | rfl | omega) ?_, rfl⟩ | refine And.intro ?_ ?_))
    simp only [Nat.zero_add, Int.toNat_natCast]
    exact fill_row hm
  · obtain rfl : k = us.length := by omega
    have hl : us.length = (fillL F us.length us.length).length := (fillL_len _ _ _).symm
    (repeat' (first | refine Zs ?_ | refine Zk ?_ | ((first | refine Za ?_ | refine Zr ?_ | refine Zp ?_ | refine Ze ?_ | refine Zd ?_ | refine Zn ?_ | refine Zc ?_ | refine UnK.mk (fun b hb => ?_)); conv => whnf) | (refine Zb (fun h => ?_) (fun h => ?_) <;> first | exact Zx | (conv => whnf))))
    exact RowIs.res rfl ⟨hl, fun _ _ _ _ => Dle.refl _⟩ rfl

theorem fits_at {us : List Sl} {ks : List Int} (h : fits us ks) {i : Nat} (hi : i < us.length) : 0 ≤ ks.getD i default ∧ ks.getD i default ≤ lenS (us.getD i default) := by
  induction us generalizing ks i with
  | nil => simp at hi
  | cons x l ih =>
    cases ks with
    | nil => exact h.elim
    | cons k ks =>
      cases i with
      | zero => simpa using h.1
      | succ i => simpa using ih h.2 (by simpa using hi)
theorem zip_at {f : Sl → Int → Sl} {us : List Sl} {ks : List Int} (hl : ks.length = us.length) {i : Nat} (hi : i < us.length) : (List.zipWith f us ks).getD i default = f (us.getD i default) (ks.getD i default) := by
  have h1 : i < ks.length := by omega
  simp [List.getElem?_zipWith, hi, h1]
theorem lcut_t (us : List Sl) (ks : List Int) (hv : ∀ y ∈ us, slOk y) (hL : us.length ≤ 100000) (hf : fits us ks) : ACalls XX 94 [.dat (slD us), .dat (iD ks)] (.tup [.dat (slD (cutA us ks)), .dat (slD (cutB us ks))]) := by
  have hlen := fits_len hf
  obtain ⟨A, hA⟩ : ∃ A : Nat → List Sl, A = fun k => ((List.zipWith fstP us ks).take k).foldl extL [] := ⟨_, rfl⟩
  obtain ⟨B, hB⟩ : ∃ B : Nat → List Sl, B = fun k => ((List.zipWith sndP us ks).take k).foldl extL [] := ⟨_, rfl⟩
  have hzA : (List.zipWith fstP us ks).length = us.length := by simp [hlen]
  have hzB : (List.zipWith sndP us ks).length = us.length := by simp [hlen]
  have hA1 : cutA us ks = A us.length := by rw [hA]; show _ = ((List.zipWith fstP us ks).take us.length).foldl extL []; rw [← hzA, List.take_length]; rfl
  have hB1 : cutB us ks = B us.length := by rw [hB]; show _ = ((List.zipWith sndP us ks).take us.length).foldl extL []; rw [← hzB, List.take_length]; rfl
  have hA0 : A 0 = [] := by rw [hA]; rfl
  have hB0 : B 0 = [] := by rw [hB]; rfl
  have hAS : ∀ k, k < us.length → A (k + 1) = extL (A k) (fstP (us.getD k default) (ks.getD k default)) := fun k hk => by
    rw [hA]
    show ((List.zipWith fstP us ks).take (k + 1)).foldl extL [] = extL (((List.zipWith fstP us ks).take k).foldl extL []) _
    rw [foldl_take_succ _ _ _ (by omega), zip_at hlen hk]
  have hBS : ∀ k, k < us.length → B (k + 1) = extL (B k) (sndP (us.getD k default) (ks.getD k default)) := fun k hk => by
    rw [hB]
    show ((List.zipWith sndP us ks).take (k + 1)).foldl extL [] = extL (((List.zipWith sndP us ks).take k).foldl extL []) _
    rw [foldl_take_succ _ _ _ (by omega), zip_at hlen hk]
  have hAl : ∀ k, (A k).length ≤ us.length := fun k => by
    have := foldl_extL_len ((List.zipWith fstP us ks).take k) []
    rw [hA]
    simp at this ⊢
    omega
  have hBl : ∀ k, (B k).length ≤ us.length := fun k => by
    have := foldl_extL_len ((List.zipWith sndP us ks).take k) []
    rw [hB]
    simp at this ⊢
    omega
  rw [hA1, hB1]
  clear hA hB
  refine ACalls.of (n := Tryz.f94.ntmps) XX_ok Tryz.func94 rfl (by kernel_rfl) rfl rfl (Nat.le_of_ble_eq_true rfl) ?_
  (repeat' (first | refine Zs ?_ | refine Zk ?_ | ((first | refine Za ?_ | refine Zr ?_ | refine Zp ?_ | refine Ze ?_ | refine Zd ?_ | refine W.drawT dr94 rfl mixed rfl ?_ | refine Zn ?_ | refine Zc ?_ | refine UnK.mk (fun b hb => ?_)); conv => whnf) | (refine Zb (fun h => ?_) (fun h => ?_) <;> first | exact Zx | (conv => whnf))))
  refine (W.adopt 6 32 35 3 (rowF slE []) rfl rfl rfl rfl ?_)
  conv => whnf
  refine (W.adopt 7 40 35 3 (rowF slE []) rfl rfl rfl rfl ?_)
  conv => whnf
  refine (W.loopK (ι := Nat) [1, 11, 12] [] (fun k => [(13, iA k), (6, .own 32 3 0 (A k).length), (7, .own 40 3 0 (B k).length)]) (fun k => [(32, .row 35 3 (A k).length (rowF slE (A k))), (40, .row 35 3 (B k).length (rowF slE (B k)))]) (fun k => k ≤ us.length) (fun k => us.length - k) 0 (Nat.zero_le _) ?_ ?_ ?_)
  · (repeat' (first | exact trivial | exact Yr | exact Yi (by first | rfl | (rw [hA0]; rfl) | (rw [hB0]; rfl) | omega) | exact Yo (by first | rfl | (rw [hA0]; rfl) | (rw [hB0]; rfl) | omega) | exact Yd | exact Yn | exact Ye (by first | rfl | (rw [hA0]; rfl) | (rw [hB0]; rfl) | omega) | exact ⟨_, rfl, Yf, rfl⟩ | refine ⟨_, rfl, Yb ?_, rfl⟩ | refine ⟨_, rfl, Yw (by first | rfl | (rw [hA0]; rfl) | (rw [hB0]; rfl) | omega) ?_, rfl⟩ | refine And.intro ?_ ?_))
  · (repeat' (first | exact trivial | exact Yr | exact Yi (by first | rfl | (rw [hA0]; rfl) | (rw [hB0]; rfl) | omega) | exact Yo (by first | rfl | (rw [hA0]; rfl) | (rw [hB0]; rfl) | omega) | exact Yd | exact Yn | exact Ye (by first | rfl | (rw [hA0]; rfl) | (rw [hB0]; rfl) | omega) | exact ⟨_, rfl, Yf, rfl⟩ | refine ⟨_, rfl, Yb ?_, rfl⟩ | refine ⟨_, rfl, Yw (by first | rfl | (rw [hA0]; rfl) | (rw [hB0]; rfl) | omega) ?_, rfl⟩ | refine And.intro ?_ ?_))
    all_goals (intro i hi; exact absurd hi (Nat.not_lt_zero _))
  conv => whnf
  intro k hk
  by_cases hk' : k < us.length
  · have hx := hv _ (getD_in hk')
    have hq := fits_at hf hk'
    have ea := extend_h (A k) (fstP (us.getD k default) (ks.getD k default)) (by have := hAl k; omega)
    have eb := extend_h (B k) (sndP (us.getD k default) (ks.getD k default)) (by have := hBl k; omega)
    rw [← hAS k hk'] at ea
    rw [← hBS k hk'] at eb
    unfold slOk at hx
    unfold lenS at hq
    (repeat' (first | refine Zs ?_ | refine Zk ?_ | ((first | refine Za ?_ | refine Zr ?_ | refine Zp ?_ | refine Ze ?_ | refine Zd ?_ | refine W.drawT dr94 rfl mixed rfl ?_ | refine Zn ?_ | refine Zc ?_ | refine UnK.mk (fun b hb => ?_)); conv => whnf) | (refine Zb (fun h => ?_) (fun h => ?_) <;> first | exact Zx | (conv => whnf))))
    all_goals (try dsimp only [Int.toNat_natCast] at *)
    (repeat' (first | refine Zs ?_ | refine Zk ?_ | ((first | refine Za ?_ | refine Zr ?_ | refine Zp ?_ | refine Ze ?_ | refine Zd ?_ | refine W.drawT dr94 rfl mixed rfl ?_ | refine Zn ?_ | refine Zc ?_ | refine UnK.mk (fun b hb => ?_) | refine ExCall.h [(1000000, 32)] rfl ea rfl ⟨rfl, trivial⟩ ?_ | refine CallK.h [(1000000, 32)] rfl ea rfl rfl ⟨rfl, trivial⟩ rfl rfl ?_ | refine ExCall.h [(1000000, 40)] rfl eb rfl ⟨rfl, trivial⟩ ?_ | refine CallK.h [(1000000, 40)] rfl eb rfl rfl ⟨rfl, trivial⟩ rfl rfl ?_); conv => whnf) | (refine Zb (fun h => ?_) (fun h => ?_) <;> first | exact Zx | (conv => whnf))))
    refine ⟨k + 1, by omega, by omega, ?_, ?_, ?_, ?_⟩ <;> (repeat' (first | exact trivial | exact Yr | exact Yi (by first | rfl | omega) | exact Yo (by first | rfl | omega) | exact Yd | exact Yn | exact Ye (by first | rfl | omega) | exact ⟨_, rfl, Yf, rfl⟩ | refine ⟨_, rfl, Yb ?_, rfl⟩ | refine ⟨_, rfl, Yw (by first | rfl | omega) ?_, rfl⟩ | refine And.intro ?_ ?_))
    all_goals exact fun _ _ _ _ => Dle.refl _
  · obtain rfl : k = us.length := by omega
    (repeat' (first | refine Zs ?_ | refine Zk ?_ | ((first | refine Za ?_ | refine Zr ?_ | refine Zp ?_ | refine Ze ?_ | refine Zd ?_ | refine W.drawT dr94 rfl mixed rfl ?_ | refine Zn ?_ | refine Zc ?_ | refine UnK.mk (fun b hb => ?_)); conv => whnf) | (refine Zb (fun h => ?_) (fun h => ?_) <;> first | exact Zx | (conv => whnf))))
    all_goals exact Zrz
theorem cntOk {us : List Sl} (hv : ∀ y ∈ us, slOk y) (hL : us.length ≤ 100000) : 0 ≤ cnt us ∧ cnt us ≤ 100000000000000 := by
  have h1 := cnt_nonneg (slOk_le hv)
  have h2 := cnt_le hv
  omega
def frA (us : List Sl) (u : Int) : List Sl := cutA us (shL us u)
def frB (us : List Sl) (u : Int) : List Sl := cutB us (shL us u)
theorem divF_t (us : List Sl) (u : Int) (hv : ∀ y ∈ us, slOk y) (hL : us.length ≤ 100000) (hu : 0 ≤ u ∧ u ≤ 4611686018427387904) : ACalls XX 74 [.dat (slD us), iA u, iA 1] (.tup [.dat (slD (frA us u)), .dat (slD (frB us u))]) := by
  have h1 := shares_t us u hv hL hu
  have h2 := lcut_t us (shL us u) hv hL (fits_shL (slOk_le hv) hu.1)
  unfold frA frB
  refine ACalls.of (n := Tryz.f74.ntmps) XX_ok Tryz.func74 rfl (by kernel_rfl) rfl rfl (Nat.le_of_ble_eq_true rfl) ?_
  (repeat' (first | refine Zs ?_ | refine Zk ?_ | ((first | refine Za ?_ | refine Zr ?_ | refine Zp ?_ | refine Ze ?_ | refine Zd ?_ | refine Zn ?_ | refine Zc ?_ | refine UnK.mk (fun b hb => ?_) | refine Zy h1 ?_ | refine Zy h2 ?_); conv => whnf) | (refine Zb (fun h => ?_) (fun h => ?_) <;> first | exact Zx | (conv => whnf))))
  all_goals exact Zrz
theorem divL_t (us : List Sl) (u : Int) (hv : ∀ y ∈ us, slOk y) (hL : us.length ≤ 100000) (hu : 0 ≤ u ∧ u ≤ cnt us) : ACalls XX 74 [.dat (slD us), iA u, iA 2] (.tup [.dat (slD (frB us (cnt us - u))), .dat (slD (frA us (cnt us - u)))]) := by
  have hc := cntOk hv hL
  have h0 := count_t us hv hL
  have h1 := shares_t us (cnt us - u) hv hL (by omega)
  have h2 := lcut_t us (shL us (cnt us - u)) hv hL (fits_shL (slOk_le hv) (by omega))
  unfold frA frB
  refine ACalls.of (n := Tryz.f74.ntmps) XX_ok Tryz.func74 rfl (by kernel_rfl) rfl rfl (Nat.le_of_ble_eq_true rfl) ?_
  (repeat' (first | refine Zs ?_ | refine Zk ?_ | ((first | refine Za ?_ | refine Zr ?_ | refine Zp ?_ | refine Ze ?_ | refine Zd ?_ | refine Zn ?_ | refine Zc ?_ | refine UnK.mk (fun b hb => ?_) | refine Zy h0 ?_ | refine Zy h1 ?_ | refine Zy h2 ?_); conv => whnf) | (refine Zb (fun h => ?_) (fun h => ?_) <;> first | exact Zx | (conv => whnf))))
  all_goals exact Zrz

end Go.Proofs.YtojkeidijdcfoaaGreatDoor
