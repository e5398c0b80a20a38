/- yield.deal: the units of the lots by the scale. -/
import Derived.Test.YtacpjihbbmoolaaGreatP5
import Derived.Test.YtacpjihbbmoolaaGreatEM
namespace Go.Proofs.YtacpjihbbmoolaaGreat
open Go Go.RowKit
set_option linter.unusedVariables false
set_option linter.unusedSimpArgs false
set_option maxRecDepth 100000
set_option maxHeartbeats 4000000
attribute [local irreducible] ResLe AVle ArgLe ArgP EntLe Dle ResH ArgQ

def alU (xs : List Lt) : List Sl := xs.flatMap Lt.us
theorem alU_succ {xs : List Lt} {k : Nat} (h : k < xs.length) : alU (xs.take (k + 1)) = alU (xs.take k) ++ (xs.getD k default).us := by
  unfold alU
  rw [take_snoc xs k h, List.flatMap_append]
  simp
theorem alU_len {xs : List Lt} (hu : ∀ x ∈ xs, x.us.length ≤ 64) : ∀ k, k ≤ xs.length → (alU (xs.take k)).length ≤ 64 * k
  | 0, _ => by simp [alU]
  | k + 1, h => by
    have ih := alU_len hu k (by omega)
    have hx := hu _ (getD_in (show k < xs.length by omega))
    rw [alU_succ (by omega), List.length_append]
    omega
theorem cnt_up {us : List Sl} {k : Nat} (h : k < us.length) : cnt (us.take (k + 1)) = cnt (us.take k) + ((us.getD k default).e - (us.getD k default).s) := by
  rw [take_snoc us k h]
  simp [cnt, lenS]
theorem cnt_bnd {us : List Sl} (hv : ∀ y ∈ us, duOk y) : ∀ k, k ≤ us.length → 0 ≤ cnt (us.take k) ∧ cnt (us.take k) ≤ 1000000000 * k
  | 0, _ => by simp [cnt]
  | k + 1, h => by
    have ih := cnt_bnd hv k (by omega)
    have hx := hv _ (getD_in (show k < us.length by omega))
    unfold duOk at hx
    rw [cnt_up (by omega)]
    omega
def poolR (r : Nat) (g al : List Sl) : AV := match al with
  | [] => match g with
    | [] => .own r 3 0 0
    | [_] => .own r 3 1 0
    | _ :: _ :: _ => .dat (.lst 3 0 fun _ _ => .val undef)
  | _ :: t => .own r 3 g.length (t.length + 1)
theorem poolC_ren (σ : Nat → Nat) (g al : List Sl) : AV.ren σ (poolC g al) = poolR (σ 5001) g al := by
  rcases al with _ | ⟨x, t⟩
  · rcases g with _ | ⟨g1, _ | ⟨g2, g⟩⟩ <;> rfl
  · rfl
noncomputable abbrev poolN (g al : List Sl) : List (Nat × Ent) := [(5, .blk 37 [poolR 31 g al]), (31, .row 84 3 (g ++ al).length (rowF slE (g ++ al)))]
theorem nextR_h (u : Int) (g al : List Sl) (hu : 0 ≤ u ∧ u ≤ 1000000000000000) (hv : ∀ y ∈ al, duOk y) (hN : (g ++ al).length ≤ 10000) :
    HC XX 63 [iA u, .ptr 5 0] (poolN g al) (.dat (slD (dlF u g al []).2.2)) (poolN (dlF u g al []).1 (dlF u g al []).2.1) none := by
  have h := (dnext_h u g al hu hv hN).ren [(5000, 5), (5001, 31)] rfl
  unfold poolN
  have e := fun g al => poolC_ren (rnm [(5000, 5), (5001, 31)]) g al
  rw [show (31 : Nat) = rnm [(5000, 5), (5001, 31)] 5001 from rfl, ← e, ← e]
  exact h
theorem dlF_len : ∀ (al g l : List Sl) (u : Int), ((dlF u g al l).1 ++ (dlF u g al l).2.1).length = (g ++ al).length
  | [], g, l, u => rfl
  | x :: t, g, l, u => by
    unfold dlF
    split
    · rfl
    · split
      · simp
      · rw [dlF_len t]; simp
theorem dropU_zero (us : List Sl) : dropU 0 us = us := by cases us <;> simp [dropU]
def dqP (us : List Sl) (sc : List Int) (k : Nat) : Int := cnt us * (sc.take k).sum / sc.sum
def outF (us : List Sl) (sc : List Int) (k i : Nat) (_ : Nat) : D := if i < k then slD (btwL us (dqP us sc i) (dqP us sc (i + 1))) else .val (.slice none 0 0)
theorem outF_set (us : List Sl) (sc : List Int) (k : Nat) (d : D) (hd : d = slD (btwL us (dqP us sc k) (dqP us sc (k + 1)))) (n : Nat) : ∀ i, i < n → ∀ j, j < 1 → Dle (setF (outF us sc k) k 0 [d] i j) (outF us sc (k + 1) i j) := by
  subst hd
  intro i hi j hj
  obtain rfl : j = 0 := by omega
  rw [setF_eq]
  unfold outF
  split
  · rename_i h
    obtain ⟨rfl, _, _⟩ := h
    rw [if_pos (by omega)]
    exact Dle.refl _
  · rename_i h
    have hne : i ≠ k := fun e => h ⟨e, Nat.le_refl _, by simp⟩
    by_cases hlt : i < k
    · rw [if_pos hlt, if_pos (by omega)]; exact Dle.refl _
    · rw [if_neg hlt, if_neg (by omega)]; exact Dle.refl _
def dealL (us : List Sl) (sc : List Int) : List (List Sl) := (List.range sc.length).map fun i => btwL us (dqP us sc i) (dqP us sc (i + 1))
theorem dqP_rng {us : List Sl} {sc : List Int} (hc : 0 ≤ cnt us ∧ cnt us ≤ 1024000000000) (hs : scOk sc) (hw : sc.sum ≠ 0) : (∀ k, 0 ≤ dqP us sc k ∧ dqP us sc k ≤ 1024000000000) ∧ dqP us sc 0 = 0 ∧ ∀ k, k < sc.length → dqP us sc k ≤ dqP us sc (k + 1) := by
  have hsr := scSum_rng hs
  have hW := hsr sc.length (Nat.le_refl _)
  rw [List.take_length] at hW
  have hpos : 0 < sc.sum := by omega
  have hup : ∀ k, k < sc.length → (sc.take k).sum ≤ (sc.take (k + 1)).sum := fun k hk => by
    have hx := hs _ (getD_in hk)
    have e1 : (sc.take (k + 1)).sum = (sc.take k).sum + sc.getD k default := by rw [take_snoc sc k hk]; simp
    omega
  have hle : ∀ d k, k + d = sc.length → (sc.take k).sum ≤ sc.sum := fun d => by
    induction d with
    | zero => intro k hk; obtain rfl : k = sc.length := by omega
              rw [List.take_length]; exact Int.le_refl _
    | succ d ih => intro k hk; exact Int.le_trans (hup k (by omega)) (ih (k + 1) (by omega))
  have hle2 : ∀ k, 0 ≤ (sc.take k).sum ∧ (sc.take k).sum ≤ sc.sum := fun k => by
    rcases Nat.lt_or_ge k sc.length with h | h
    · exact ⟨(hsr k (by omega)).1, hle (sc.length - k) k (by omega)⟩
    · rw [List.take_of_length_le h]; exact ⟨hW.1, Int.le_refl _⟩
  refine ⟨fun k => ⟨Int.ediv_nonneg (Int.mul_nonneg hc.1 (hle2 k).1) hW.1, ?_⟩, by unfold dqP; simp, fun k hk => Int.ediv_le_ediv hpos (Int.mul_le_mul_of_nonneg_left (hup k hk) hc.1)⟩
  refine Int.le_trans (Int.ediv_le_of_le_mul hpos (b := cnt us) ?_) hc.2
  exact Int.mul_le_mul_of_nonneg_left (hle2 k).2 hc.1
theorem deal_t (xs : List Lt) (sc : List Int) (hL : xs.length ≤ 16) (hU : ∀ x ∈ xs, x.us.length ≤ 64) (hv : ∀ y ∈ alU xs, duOk y) (hS : sc.length ≤ 8) (hs : scOk sc) (hw : sc.sum ≠ 0) :
    ACalls XX 26 [.dat (ltD xs), .dat (iD sc)] (.dat (llD (dealL (alU xs) sc))) := by
  have hlen := alU_len hU
  refine ACalls.of (n := Tryz.f26.ntmps) XX_ok Tryz.func26 rfl (by kernel_rfl) rfl rfl (Nat.le_of_ble_eq_true rfl) ?_
  (repeat' (first | ((first | refine Zv 3 ?_ | refine Zn ?_ | refine Zc ?_ | refine Zu fun b hb => ?_); conv => whnf) | (refine Zb (fun h => ?_) (fun h => ?_) <;> first | exact Zx | (conv => whnf))))
  all_goals (conv => whnf)
  refine (W.adoptB 5 0 31 84 3 (rowF slE []) rfl rfl rfl rfl rfl rfl ?_); conv => whnf
  (repeat' (first | ((first | refine Zg ?_ | refine Zn ?_ | refine Zc ?_ | refine Zu fun b hb => ?_); conv => whnf) | (refine Zb (fun h => ?_) (fun h => ?_) <;> first | exact Zx | (conv => whnf))))
  refine (W.loopK (ι := Nat) [1, 5, 6, 7, 22, 23] [] (fun k => [(24, iA k)]) (fun k => [(5, .blk 37 [.own 31 3 0 (alU (xs.take k)).length]), (31, .row 84 3 (alU (xs.take k)).length (rowF slE (alU (xs.take k))))]) (fun k => k ≤ xs.length) (fun k => xs.length - k) 0 (Nat.zero_le _) ?_ ?_ ?_)
  · exact Yz
  · exact Yz
  conv => whnf
  intro k hk
  have hb := hlen k hk
  by_cases hk' : k < xs.length
  · have hx := hU _ (getD_in hk')
    have e1 := alU_succ hk'
    have e2 : (alU (xs.take (k + 1))).length = (alU (xs.take k)).length + (xs.getD k default).us.length := by rw [e1, List.length_append]
    (repeat' (first | ((first | refine Zg ?_ | refine Zn ?_ | refine Zc ?_ | refine Zu fun b hb => ?_); conv => whnf) | (refine Zb (fun h => ?_) (fun h => ?_) <;> first | exact Zx | (conv => whnf))))
    all_goals (try dsimp only [Int.toNat_natCast] at *)
    (repeat' (first | ((first | refine Zg ?_ | refine Zn ?_ | refine Zc ?_ | refine Zu fun b hb => ?_); conv => whnf) | (refine Zb (fun h => ?_) (fun h => ?_) <;> first | exact Zx | (conv => whnf))))
    all_goals first | (exfalso; omega) | skip
    refine ⟨k + 1, by omega, by omega, ?_, ?_, ?_, ?_⟩
    all_goals (repeat' (first | exact Yq | exact Yi (by first | rfl | exact e2.symm | omega) | exact Yo (by first | rfl | exact e2.symm | omega) | exact Ye (by first | rfl | exact e2.symm | omega) | refine ⟨_, rfl, Yb ?_, rfl⟩ | refine ⟨_, rfl, Yw (by first | rfl | exact e2.symm | omega) ?_, rfl⟩ | refine And.intro ?_ ?_))
    all_goals (rw [e1]; exact rowF_app rfl fun i hi j hj => Dle.refl _)
  obtain rfl : k = xs.length := by omega
  rw [List.take_length] at *
  generalize hus : alU xs = us at *
  have hcb := cnt_bnd hv
  (repeat' (first | ((first | refine Zg ?_ | refine Zn ?_ | refine Zc ?_ | refine Zu fun b hb => ?_); conv => whnf) | (refine Zb (fun h => ?_) (fun h => ?_) <;> first | exact Zx | (conv => whnf))))
  refine (W.loopK (ι := Nat) [1, 5, 7, 33, 34] [5, 31] (fun k => [(35, iA k), (6, iA (cnt (us.take k)))]) (fun _ => []) (fun k => k ≤ us.length) (fun k => us.length - k) 0 (Nat.zero_le _) ?_ ?_ ?_)
  · exact Yz
  · exact Yz
  conv => whnf
  intro k hk
  by_cases hk' : k < us.length
  · have hx := hv _ (getD_in hk')
    have hc0 := hcb k hk
    have e1 := cnt_up hk'
    unfold duOk at hx
    (repeat' (first | ((first | refine Zv 11 ?_ | refine Zn ?_ | refine Zc ?_ | refine Zu fun b hb => ?_); conv => whnf) | (refine Zb (fun h => ?_) (fun h => ?_) <;> first | exact Zx | (conv => whnf))))
    all_goals (try dsimp only [Int.toNat_natCast] at *)
    all_goals (try simp only [Nat.zero_add] at *)
    (repeat' (first | ((first | refine Zv 11 ?_ | refine Zn ?_ | refine Zc ?_ | refine Zu fun b hb => ?_); conv => whnf) | (refine Zb (fun h => ?_) (fun h => ?_) <;> first | exact Zx | (conv => whnf))))
    all_goals (try dsimp only [Int.toNat_natCast] at *)
    all_goals (try simp only [Nat.zero_add] at *)
    (repeat' (first | ((first | refine Zg ?_ | refine Zn ?_ | refine Zc ?_ | refine Zu fun b hb => ?_); conv => whnf) | (refine Zb (fun h => ?_) (fun h => ?_) <;> first | exact Zx | (conv => whnf))))
    all_goals first | (exfalso; omega) | skip
    refine ⟨k + 1, by omega, by omega, ?_, ?_, ?_, ?_⟩
    all_goals (repeat' (first | exact Yq | exact Yi (by first | rfl | exact e1.symm | omega) | exact Yo (by first | rfl | exact e1.symm | omega) | exact Ye (by first | rfl | exact e1.symm | omega) | refine ⟨_, rfl, Yb ?_, rfl⟩ | refine ⟨_, rfl, Yw (by first | rfl | exact e1.symm | omega) ?_, rfl⟩ | refine And.intro ?_ ?_))
  obtain rfl : k = us.length := by omega
  rw [List.take_length] at *
  have hsr := scSum_rng hs
  (repeat' (first | ((first | refine Zg ?_ | refine Zn ?_ | refine Zc ?_ | refine Zu fun b hb => ?_); conv => whnf) | (refine Zb (fun h => ?_) (fun h => ?_) <;> first | exact Zx | (conv => whnf))))
  refine (W.loopK (ι := Nat) [1, 5, 6, 47, 48] [5, 31] (fun k => [(49, iA k), (7, iA (sc.take k).sum)]) (fun _ => []) (fun k => k ≤ sc.length) (fun k => sc.length - k) 0 (Nat.zero_le _) ?_ ?_ ?_)
  · exact Yz
  · exact Yz
  conv => whnf
  intro k hk
  by_cases hk' : k < sc.length
  · have hx := hs _ (getD_in hk')
    have hc0 := hsr k hk
    have e1 : (sc.take (k + 1)).sum = (sc.take k).sum + sc.getD k default := by rw [take_snoc sc k hk']; simp
    (repeat' (first | ((first | refine Zv 16 ?_ | refine Zn ?_ | refine Zc ?_ | refine Zu fun b hb => ?_); conv => whnf) | (refine Zb (fun h => ?_) (fun h => ?_) <;> first | exact Zx | (conv => whnf))))
    all_goals (try dsimp only [Int.toNat_natCast] at *)
    all_goals (try simp only [Nat.zero_add] at *)
    (repeat' (first | ((first | refine Zg ?_ | refine Zn ?_ | refine Zc ?_ | refine Zu fun b hb => ?_); conv => whnf) | (refine Zb (fun h => ?_) (fun h => ?_) <;> first | exact Zx | (conv => whnf))))
    all_goals first | (exfalso; omega) | skip
    refine ⟨k + 1, by omega, by omega, ?_, ?_, ?_, ?_⟩
    all_goals (repeat' (first | exact Yq | exact Yi (by first | rfl | exact e1.symm | omega) | exact Yo (by first | rfl | exact e1.symm | omega) | exact Ye (by first | rfl | exact e1.symm | omega) | refine ⟨_, rfl, Yb ?_, rfl⟩ | refine ⟨_, rfl, Yw (by first | rfl | exact e1.symm | omega) ?_, rfl⟩ | refine And.intro ?_ ?_))
  obtain rfl : k = sc.length := by omega
  rw [List.take_length] at *
  have hN : us.length ≤ 1024 := by omega
  have hC := hcb us.length (Nat.le_refl _)
  have hW := hsr sc.length (Nat.le_refl _)
  rw [List.take_length] at hC hW
  have hq := dqP_rng (us := us) (sc := sc) ⟨hC.1, by omega⟩ hs hw
  clear hcb hlen hb
  (repeat' (first | ((first | refine Zg ?_ | refine Zn ?_ | refine Zc ?_ | refine Zu fun b hb => ?_); conv => whnf) | (refine Zb (fun h => ?_) (fun h => ?_) <;> first | exact Zx | (conv => whnf))))
  refine (W.loopK (ι := Nat × List Sl × List Sl) [6, 7, 14, 15, 61, 62] [] (fun s => [(63, iA s.1), (16, iA (sc.take s.1).sum), (17, iA (dqP us sc s.1))]) (fun s => [(5, .blk 37 [poolR 31 s.2.1 s.2.2]), (31, .row 84 3 (s.2.1 ++ s.2.2).length (rowF slE (s.2.1 ++ s.2.2))), (60, .row 37 1 sc.length (outF us sc s.1))])
    (fun s => s.1 ≤ sc.length ∧ s.2.2 = dropU (dqP us sc s.1) us ∧ (s.2.1 ++ s.2.2).length ≤ 10000) (fun s => sc.length - s.1) (0, [], us) ⟨Nat.zero_le _, by rw [hq.2.1, dropU_zero], by simp; omega⟩ ?_ ?_ ?_)
  · (repeat' (first | exact Yq | exact Yi (by first | rfl | exact hq.2.1.symm | omega) | exact Yo (by first | rfl | exact hq.2.1.symm | omega) | exact Ye (by first | rfl | exact hq.2.1.symm | omega) | refine ⟨_, rfl, Yb ?_, rfl⟩ | refine ⟨_, rfl, Yw (by first | rfl | exact hq.2.1.symm | omega) ?_, rfl⟩ | refine And.intro ?_ ?_))
  · (repeat' (first | exact Yq | exact Yi (by first | rfl | exact hq.2.1.symm | omega) | exact Yo (by first | rfl | exact hq.2.1.symm | omega) | exact Ye (by first | rfl | exact hq.2.1.symm | omega) | refine ⟨_, rfl, Yb ?_, rfl⟩ | refine ⟨_, rfl, Yw (by first | rfl | exact hq.2.1.symm | omega) ?_, rfl⟩ | refine And.intro ?_ ?_))
    · rcases us with _ | ⟨x, t⟩ <;> exact AVle.refl _
    · exact fun i hi j hj => Dle.of_eq (by obtain rfl : j = 0 := by omega
                                           rfl)
  conv => whnf
  intro ⟨k, g, al⟩ ⟨p1, p2, p3⟩
  simp only at p1 p2 p3
  dsimp only
  by_cases hk2 : k < sc.length
  · have hx := hs _ (getD_in hk2)
    have hr0 := hsr k p1
    have e1 : (sc.take (k + 1)).sum = (sc.take k).sum + sc.getD k default := by rw [take_snoc sc k hk2]; simp
    have hr1 := hsr (k + 1) hk2
    have hq0 := hq.1 k
    have hq1 := hq.1 (k + 1)
    have hqm := hq.2.2 k hk2
    have hmd := mulDiv_t (cnt us) (sc.take (k + 1)).sum sc.sum (by omega) (by omega) (by omega) (by show dqP us sc (k + 1) < _; omega)
    have hm2 : cnt us * (sc.take (k + 1)).sum / sc.sum = dqP us sc (k + 1) := rfl
    rw [hm2] at hmd
    rw [e1] at hmd hr1
    have hR := dlF_eq al g [] (dqP us sc (k + 1) - dqP us sc k)
    have hRl := dlF_len al g [] (dqP us sc (k + 1) - dqP us sc k)
    have hln : ∀ y ∈ us, lnOk y := fun y hy => (hv y hy).2.1
    have hnx := nextR_h (dqP us sc (k + 1) - dqP us sc k) g al (by omega) (by rw [p2]; exact dropU_ok _ _ hv) p3
    (repeat' (first | ((first | refine Zv 25 ?_ | refine Zn ?_ | refine Zc ?_ | refine Zu fun b hb => ?_); conv => whnf) | (refine Zb (fun h => ?_) (fun h => ?_) <;> first | exact Zx | (conv => whnf))))
    all_goals (try dsimp only [Int.toNat_natCast] at *)
    all_goals (try simp only [Nat.zero_add] at *)
    generalize dlF (dqP us sc (k + 1) - dqP us sc k) g al [] = R at *
    obtain ⟨g2, al2, l2⟩ := R
    simp only [Prod.mk.injEq] at hR hRl hnx
    obtain ⟨hR1, hR2⟩ := hR
    rw [p2, dropU_add us _ _ (by omega) (by omega) hln, show dqP us sc (k + 1) - dqP us sc k + dqP us sc k = dqP us sc (k + 1) by omega] at hR1
    rw [p2, takeU_btw us _ _ (by omega) (by omega) hln] at hR2
    have hrow := outF_set us sc k (slD l2) (by rw [hR2])
    (repeat' (first | ((first | refine Zg ?_ | refine Zn ?_ | refine Zc ?_ | refine Zu fun b hb => ?_ | refine Zy hmd ?_ | refine ExCall.byH hnx (AVsLe.refl _) (isH.have ⟨rfl, rfl, trivial⟩) ?_); conv => whnf) | (refine Zb (fun h => ?_) (fun h => ?_) <;> first | exact Zx | (conv => whnf))))
    all_goals first | (exfalso; omega) | skip
    refine ⟨(k + 1, g2, al2), ⟨by simp only; omega, hR1, by simp only; omega⟩, by simp only; omega, ?_, ?_, ?_, ?_⟩
    all_goals (repeat' (first | exact Yq | exact Yi (by first | rfl | exact e1.symm | omega) | exact Yo (by first | rfl | exact e1.symm | omega) | exact Ye (by first | rfl | exact e1.symm | omega) | refine ⟨_, rfl, Yb ?_, rfl⟩ | refine ⟨_, rfl, Yw (by first | rfl | exact e1.symm | omega) ?_, rfl⟩ | refine And.intro ?_ ?_))
    exact fun i hi j hj => by
      have h5 := hrow sc.length i hi j hj
      rw [show 0 + ((k : Int)).toNat = k by simp]
      exact h5
  obtain rfl : k = sc.length := by omega
  (repeat' (first | ((first | refine Zg ?_ | refine Zn ?_ | refine Zc ?_ | refine Zu fun b hb => ?_); conv => whnf) | (refine Zb (fun h => ?_) (fun h => ?_) <;> first | exact Zx | (conv => whnf))))
  refine RowIs.res (enc := fun (us : List Sl) (_ : Nat) => slD us) (us := dealL us sc) rfl ⟨by simp [dealL], fun i hi j hj => ?_⟩ rfl
  have hi' : i < sc.length := by simpa using hi
  refine Dle.of_eq ?_
  unfold outF rowF dealL
  rw [if_pos hi', List.getD_eq_getElem?_getD, List.getElem?_map, List.getElem?_range hi']
  rfl
end Go.Proofs.YtacpjihbbmoolaaGreat
