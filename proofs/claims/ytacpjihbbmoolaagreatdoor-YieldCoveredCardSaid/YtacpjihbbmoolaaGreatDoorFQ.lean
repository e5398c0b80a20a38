/- What is dealt out one after another is what lies between two places (plain). yield.deal: the units of the lots by the scale. -/
import Derived.Test.YtacpjihbbmoolaaGreatDoorP4
import Derived.Test.YtacpjihbbmoolaaGreatDoorEM

namespace Go.Proofs.YtacpjihbbmoolaaGreatDoor
open Go Go.RowKit
set_option linter.unusedVariables false
set_option linter.unusedSimpArgs false

def pX : List Sl → Int → Int → List Sl
  | [], _, _ => []
  | x :: r, f, t => (if (if 0 > f then 0 else f) < (if x.e - x.s < t then x.e - x.s else t) then [⟨x.m, x.s + (if 0 > f then 0 else f), x.s + (if x.e - x.s < t then x.e - x.s else t)⟩] else []) ++ pX r (f - (x.e - x.s)) (t - (x.e - x.s))
theorem pcnt_cons (x : Sl) (r : List Sl) : cnt (x :: r) = (x.e - x.s) + cnt r := by simp [cnt, lenS]
theorem pcAt_cons (x : Sl) (r : List Sl) (f t : Int) (k : Nat) : pcAt (x :: r) f t (k + 1) = pcAt r (f - (x.e - x.s)) (t - (x.e - x.s)) k := by
  have e1 : (x :: r).getD (k + 1) default = r.getD k default := by simp
  have e2 : btA (x :: r) f (k + 1) = btA r (f - (x.e - x.s)) k := by unfold btA; rw [List.take_succ_cons, pcnt_cons, show f - (x.e - x.s + cnt (r.take k)) = f - (x.e - x.s) - cnt (r.take k) by omega]
  have e3 : btB (x :: r) t (k + 1) = btB r (t - (x.e - x.s)) k := by unfold btB; rw [e1, List.take_succ_cons, pcnt_cons, show t - (x.e - x.s + cnt (r.take k)) = t - (x.e - x.s) - cnt (r.take k) by omega]
  unfold pcAt
  rw [e1, e2, e3]
theorem pcs_pX : ∀ (us : List Sl) (f t : Int), pcs us f t us.length = pX us f t
  | [], _, _ => rfl
  | x :: r, f, t => by
    have ih := pcs_pX r (f - (x.e - x.s)) (t - (x.e - x.s))
    unfold pX
    rw [← ih]
    unfold pcs
    rw [List.length_cons, List.range_succ_eq_map, List.flatMap_cons, List.flatMap_map]
    congr 1
    · unfold pcAt btA btB
      simp [cnt]
    · rw [List.flatMap_def, List.flatMap_def]
      exact congrArg List.flatten (List.map_congr_left fun k _ => pcAt_cons x r f t k)
def dropU : Int → List Sl → List Sl
  | _, [] => []
  | u, x :: t => if u ≤ 0 then x :: t else if u < x.e - x.s then ⟨x.m, x.s + u, x.e⟩ :: t else dropU (u - (x.e - x.s)) t
def takeU : Int → List Sl → List Sl
  | _, [] => []
  | u, x :: t => if u ≤ 0 then [] else if u < x.e - x.s then [⟨x.m, x.s, x.s + u⟩] else ⟨x.m, x.s, x.e⟩ :: takeU (u - (x.e - x.s)) t
theorem dlF_eq : ∀ (al g l : List Sl) (u : Int), (dlF u g al l).2 = (dropU u al, (takeU u al).foldl extR l)
  | [], g, l, u => rfl
  | x :: t, g, l, u => by
    unfold dlF dropU takeU
    split
    · rfl
    · split
      · rfl
      · rw [dlF_eq t]; rfl
def lnOk (y : Sl) : Prop := y.s < y.e
theorem pX_no : ∀ (us : List Sl) (f t : Int), t ≤ 0 → (∀ y ∈ us, lnOk y) → pX us f t = []
  | [], _, _, _, _ => rfl
  | x :: r, f, t, ht, hv => by
    have hx : x.s < x.e := hv x (List.mem_cons_self ..)
    have ih := pX_no r (f - (x.e - x.s)) (t - (x.e - x.s)) (by omega) (fun y hy => hv y (List.mem_cons_of_mem _ hy))
    unfold pX
    rw [ih, if_neg (by split <;> split <;> omega)]
    rfl
theorem pX_front : ∀ (us : List Sl) (f t : Int), f ≤ 0 → (∀ y ∈ us, lnOk y) → pX us f t = takeU t us
  | [], _, _, _, _ => rfl
  | x :: r, f, t, hf, hv => by
    have hx : x.s < x.e := hv x (List.mem_cons_self ..)
    have hr : ∀ y ∈ r, lnOk y := fun y hy => hv y (List.mem_cons_of_mem _ hy)
    have ih := pX_front r (f - (x.e - x.s)) (t - (x.e - x.s)) (by omega) hr
    have hn := pX_no r (f - (x.e - x.s)) (t - (x.e - x.s))
    have hz : (if 0 > f then 0 else f) = 0 := by split <;> omega
    unfold pX takeU
    rw [hz]
    by_cases h0 : t ≤ 0
    · rw [if_pos h0, hn (by omega) hr, if_neg (by split <;> omega)]; rfl
    rw [if_neg h0, if_pos (by split <;> omega)]
    by_cases h1 : t < x.e - x.s
    · rw [if_pos h1, hn (by omega) hr, if_neg (by omega), Int.add_zero]; rfl
    · rw [if_neg h1, ih, Int.add_zero, show x.s + (if x.e - x.s < t then x.e - x.s else t) = x.e by split <;> omega]; rfl
theorem pX_eq : ∀ (us : List Sl) (f t : Int), 0 ≤ f → f ≤ t → (∀ y ∈ us, lnOk y) → pX us f t = takeU (t - f) (dropU f us)
  | [], _, _, _, _, _ => rfl
  | x :: r, f, t, hf, ht, hv => by
    have hx : x.s < x.e := hv x (List.mem_cons_self ..)
    have hr : ∀ y ∈ r, lnOk y := fun y hy => hv y (List.mem_cons_of_mem _ hy)
    by_cases h0 : f ≤ 0
    · obtain rfl : f = 0 := by omega
      rw [pX_front _ _ _ (by omega) hv, show dropU 0 (x :: r) = x :: r from if_pos (Int.le_refl _), Int.sub_zero]
    have hz : (if 0 > f then 0 else f) = f := by split <;> omega
    by_cases h1 : f < x.e - x.s
    · have e : dropU f (x :: r) = ⟨x.m, x.s + f, x.e⟩ :: r := by unfold dropU; rw [if_neg h0, if_pos h1]
      rw [e]
      have hn := pX_no r (f - (x.e - x.s)) (t - (x.e - x.s))
      have ih := pX_front r (f - (x.e - x.s)) (t - (x.e - x.s)) (by omega) hr
      unfold pX takeU
      rw [hz]
      dsimp only
      by_cases h2 : t - f ≤ 0
      · rw [if_pos h2, hn (by omega) hr, if_neg (by split <;> omega)]; rfl
      rw [if_neg h2, if_pos (by split <;> omega)]
      by_cases h3 : t - f < x.e - (x.s + f)
      · rw [if_pos h3, hn (by omega) hr, if_neg (by omega), show x.s + f + (t - f) = x.s + t by omega]; rfl
      · rw [if_neg h3, ih, show x.s + (if x.e - x.s < t then x.e - x.s else t) = x.e by split <;> omega, show t - f - (x.e - (x.s + f)) = t - (x.e - x.s) by omega]; rfl
    · have e : dropU f (x :: r) = dropU (f - (x.e - x.s)) r := by rw [dropU, if_neg h0, if_neg h1]
      have ih := pX_eq r (f - (x.e - x.s)) (t - (x.e - x.s)) (by omega) (by omega) hr
      rw [e]
      unfold pX
      rw [hz, ih, if_neg (by split <;> omega), show t - (x.e - x.s) - (f - (x.e - x.s)) = t - f by omega]
      rfl
theorem takeU_btw (us : List Sl) (f t : Int) (hf : 0 ≤ f) (ht : f ≤ t) (hv : ∀ y ∈ us, lnOk y) : (takeU (t - f) (dropU f us)).foldl extR [] = btwL us f t := by
  unfold btwL btwR
  rw [pcs_pX, pX_eq us f t hf ht hv]
theorem dropU_ok : ∀ (us : List Sl) (f : Int), (∀ y ∈ us, duOk y) → ∀ y ∈ dropU f us, duOk y
  | [], _, _ => fun y hy => by cases hy
  | x :: r, f, hv => fun y hy => by
    have hx := hv x (List.mem_cons_self ..)
    unfold dropU at hy
    split at hy
    · exact hv y hy
    · split at hy
      · rcases List.mem_cons.1 hy with h|h
        · subst h; unfold duOk at *; simp only; omega
        · exact hv y (List.mem_cons_of_mem _ h)
      · exact dropU_ok r _ (fun y hy => hv y (List.mem_cons_of_mem _ hy)) y hy
theorem dropU_add : ∀ (us : List Sl) (a b : Int), 0 ≤ a → 0 ≤ b → (∀ y ∈ us, lnOk y) → dropU a (dropU b us) = dropU (a + b) us
  | [], _, _, _, _, _ => rfl
  | x :: r, a, b, ha, hb, hv => by
    have hx : x.s < x.e := hv x (List.mem_cons_self ..)
    have hr : ∀ y ∈ r, lnOk y := fun y hy => hv y (List.mem_cons_of_mem _ hy)
    by_cases h0 : b ≤ 0
    · obtain rfl : b = 0 := by omega
      rw [show dropU 0 (x :: r) = x :: r from if_pos (Int.le_refl _), Int.add_zero]
    by_cases h1 : b < x.e - x.s
    · have e : dropU b (x :: r) = ⟨x.m, x.s + b, x.e⟩ :: r := by rw [dropU, if_neg h0, if_pos h1]
      rw [e]
      unfold dropU
      dsimp only
      by_cases h2 : a ≤ 0
      · obtain rfl : a = 0 := by omega
        rw [if_pos h2, if_neg (by omega), if_pos (by omega), Int.zero_add]
      rw [if_neg h2, if_neg (show ¬ a + b ≤ 0 by omega)]
      by_cases h3 : a < x.e - (x.s + b)
      · rw [if_pos h3, if_pos (show a + b < x.e - x.s by omega), show x.s + b + a = x.s + (a + b) by omega]
      · rw [if_neg h3, if_neg (show ¬ a + b < x.e - x.s by omega), show a - (x.e - (x.s + b)) = a + b - (x.e - x.s) by omega]
    · have e : dropU b (x :: r) = dropU (b - (x.e - x.s)) r := by rw [dropU, if_neg h0, if_neg h1]
      rw [e, dropU_add r a (b - (x.e - x.s)) ha (by omega) hr]
      rw [dropU, if_neg (by omega), if_neg (by omega), show a + (b - (x.e - x.s)) = a + b - (x.e - x.s) by omega]
end Go.Proofs.YtacpjihbbmoolaaGreatDoor

namespace Go.Proofs.YtacpjihbbmoolaaGreatDoor
open Go Go.RowKit
set_option linter.unusedVariables false
set_option linter.unusedSimpArgs false
set_option maxRecDepth 100000
set_option maxHeartbeats 4000000
attribute [local irreducible] ResLe AVle ArgLe ArgP EntLe Dle ResH ArgQ

def alU (xs : List Lt) : List Sl := xs.flatMap Lt.us
theorem alU_succ {xs : List Lt} {k : Nat} (h : k < xs.length) : alU (xs.take (k + 1)) = alU (xs.take k) ++ (xs.getD k default).us := by
  unfold alU
  rw [take_snoc xs k h, List.flatMap_append]
  simp
theorem alU_len {xs : List Lt} (hu : ∀ x ∈ xs, x.us.length ≤ 64) : ∀ k, k ≤ xs.length → (alU (xs.take k)).length ≤ 64 * k
  | 0, _ => by simp [alU]
  | k + 1, h => by
    have ih := alU_len hu k (by omega)
    have hx := hu _ (getD_in (show k < xs.length by omega))
    rw [alU_succ (by omega), List.length_append]
    omega
theorem cnt_up {us : List Sl} {k : Nat} (h : k < us.length) : cnt (us.take (k + 1)) = cnt (us.take k) + ((us.getD k default).e - (us.getD k default).s) := by
  rw [take_snoc us k h]
  simp [cnt, lenS]
theorem cnt_bnd {us : List Sl} (hv : ∀ y ∈ us, duOk y) : ∀ k, k ≤ us.length → 0 ≤ cnt (us.take k) ∧ cnt (us.take k) ≤ 1000000000 * k
  | 0, _ => by simp [cnt]
  | k + 1, h => by
    have ih := cnt_bnd hv k (by omega)
    have hx := hv _ (getD_in (show k < us.length by omega))
    unfold duOk at hx
    rw [cnt_up (by omega)]
    omega
def poolR (r : Nat) (g al : List Sl) : AV := match al with
  | [] => match g with
    | [] => .own r 3 0 0
    | [_] => .own r 3 1 0
    | _ :: _ :: _ => .dat (.lst 3 0 fun _ _ => .val undef)
  | _ :: t => .own r 3 g.length (t.length + 1)
theorem poolC_ren (σ : Nat → Nat) (g al : List Sl) : AV.ren σ (poolC g al) = poolR (σ 5001) g al := by
  rcases al with _|⟨x, t⟩
  · rcases g with _|⟨g1, _|⟨g2, g⟩⟩ <;> rfl
  · rfl
noncomputable abbrev poolN (g al : List Sl) : List (Nat × Ent) := [(5, .blk 43 [poolR 31 g al]), (31, .row 63 3 (g ++ al).length (rowF slE (g ++ al)))]
theorem nextR_h (u : Int) (g al : List Sl) (hu : 0 ≤ u ∧ u ≤ 1000000000000000) (hv : ∀ y ∈ al, duOk y) (hN : (g ++ al).length ≤ 10000) :
    HC XX 65 [iA u, .ptr 5 0] (poolN g al) (.dat (slD (dlF u g al []).2.2)) (poolN (dlF u g al []).1 (dlF u g al []).2.1) none := by
  have h := (dnext_h u g al hu hv hN).ren [(5000, 5), (5001, 31)] rfl
  unfold poolN
  have e := fun g al => poolC_ren (rnm [(5000, 5), (5001, 31)]) g al
  rw [show (31 : Nat) = rnm [(5000, 5), (5001, 31)] 5001 from rfl, ← e, ← e]
  exact h
theorem dlF_len : ∀ (al g l : List Sl) (u : Int), ((dlF u g al l).1 ++ (dlF u g al l).2.1).length = (g ++ al).length
  | [], g, l, u => rfl
  | x :: t, g, l, u => by
    unfold dlF
    split
    · rfl
    · split
      · simp
      · rw [dlF_len t]; simp
theorem dropU_zero (us : List Sl) : dropU 0 us = us := by cases us <;> simp [dropU]
def dqP (us : List Sl) (sc : List Int) (k : Nat) : Int := cnt us * (sc.take k).sum / sc.sum
def outF (us : List Sl) (sc : List Int) (k i : Nat) (_ : Nat) : D := if i < k then slD (btwL us (dqP us sc i) (dqP us sc (i + 1))) else .val (.slice none 0 0)
theorem outF_set (us : List Sl) (sc : List Int) (k : Nat) (d : D) (hd : d = slD (btwL us (dqP us sc k) (dqP us sc (k + 1)))) (n : Nat) : ∀ i, i < n → ∀ j, j < 1 → Dle (setF (outF us sc k) k 0 [d] i j) (outF us sc (k + 1) i j) := by
  subst hd
  intro i hi j hj
  obtain rfl : j = 0 := by omega
  rw [setF_eq]
  unfold outF
  split
  · rename_i h
    obtain ⟨rfl, _, _⟩ := h
    rw [if_pos (by omega)]
    exact Dle.refl _
  · rename_i h
    have hne : i ≠ k := fun e => h ⟨e, Nat.le_refl _, by simp⟩
    by_cases hlt : i < k
    · rw [if_pos hlt, if_pos (by omega)]; exact Dle.refl _
    · rw [if_neg hlt, if_neg (by omega)]; exact Dle.refl _
def dealL (us : List Sl) (sc : List Int) : List (List Sl) := (List.range sc.length).map fun i => btwL us (dqP us sc i) (dqP us sc (i + 1))
theorem dqP_rng {us : List Sl} {sc : List Int} (hc : 0 ≤ cnt us ∧ cnt us ≤ 1024000000000) (hs : scOk sc) (hw : sc.sum ≠ 0) : (∀ k, 0 ≤ dqP us sc k ∧ dqP us sc k ≤ 1024000000000) ∧ dqP us sc 0 = 0 ∧ ∀ k, k < sc.length → dqP us sc k ≤ dqP us sc (k + 1) := by
  have hsr := scSum_rng hs
  have hW := hsr sc.length (Nat.le_refl _)
  rw [List.take_length] at hW
  have hpos : 0 < sc.sum := by omega
  have hup : ∀ k, k < sc.length → (sc.take k).sum ≤ (sc.take (k + 1)).sum := fun k hk => by
    have hx := hs _ (getD_in hk)
    have e1 : (sc.take (k + 1)).sum = (sc.take k).sum + sc.getD k default := by rw [take_snoc sc k hk]; simp
    omega
  have hle : ∀ d k, k + d = sc.length → (sc.take k).sum ≤ sc.sum := fun d => by
    induction d with
    | zero => intro k hk; obtain rfl : k = sc.length := by omega
              rw [List.take_length]; exact Int.le_refl _
    | succ d ih => intro k hk; exact Int.le_trans (hup k (by omega)) (ih (k + 1) (by omega))
  have hle2 : ∀ k, 0 ≤ (sc.take k).sum ∧ (sc.take k).sum ≤ sc.sum := fun k => by
    rcases Nat.lt_or_ge k sc.length with h|h
    · exact ⟨(hsr k (by omega)).1, hle (sc.length - k) k (by omega)⟩
    · rw [List.take_of_length_le h]; exact ⟨hW.1, Int.le_refl _⟩
  refine ⟨fun k => ⟨Int.ediv_nonneg (Int.mul_nonneg hc.1 (hle2 k).1) hW.1, ?_⟩, by unfold dqP; simp, fun k hk => Int.ediv_le_ediv hpos (Int.mul_le_mul_of_nonneg_left (hup k hk) hc.1)⟩
  refine Int.le_trans (Int.ediv_le_of_le_mul hpos (b := cnt us) ?_) hc.2
  exact Int.mul_le_mul_of_nonneg_left (hle2 k).2 hc.1
theorem deal_t (xs : List Lt) (sc : List Int) (hL : xs.length ≤ 16) (hU : ∀ x ∈ xs, x.us.length ≤ 64) (hv : ∀ y ∈ alU xs, duOk y) (hS : sc.length ≤ 8) (hs : scOk sc) (hw : sc.sum ≠ 0) :
    ACalls XX 31 [.dat (ltD xs), .dat (iD sc)] (.dat (llD (dealL (alU xs) sc))) := by
  have hlen := alU_len hU
  refine ACalls.of (n := Tryz.f31.ntmps) XX_ok Tryz.func31 rfl (by kernel_rfl) rfl rfl (Nat.le_of_ble_eq_true rfl) ?_
  (repeat' (first|((first|refine Zv 3 ?_|refine Zn ?_|refine Zc ?_|refine Zu fun b hb=>?_);conv=>whnf)|(refine Zb ?_ ?_<;>(intro h;first|exact Zx|conv=>whnf))))
  all_goals (conv=>whnf)
  refine (W.adoptB 5 0 31 63 3 (rowF slE []) rfl rfl rfl rfl rfl rfl ?_); conv => whnf
  (repeat' (first|((first|refine Zg ?_|refine Zn ?_|refine Zc ?_|refine Zu fun b hb=>?_);conv=>whnf)|(refine Zb ?_ ?_<;>(intro h;first|exact Zx|conv=>whnf))))
  refine (W.loopK (ι := Nat) [1, 5, 6, 7, 22, 23] [] (fun k => [(24, iA k)]) (fun k => [(5, .blk 43 [.own 31 3 0 (alU (xs.take k)).length]), (31, .row 63 3 (alU (xs.take k)).length (rowF slE (alU (xs.take k))))]) (fun k => k ≤ xs.length) (fun k => xs.length - k) 0 (Nat.zero_le _) ?_ ?_ ?_)
  · exact Yz
  · exact Yz
  conv => whnf
  intro k hk
  have hb := hlen k hk
  by_cases hk' : k < xs.length
  · have hx := hU _ (getD_in hk')
    have e1 := alU_succ hk'
    have e2 : (alU (xs.take (k + 1))).length = (alU (xs.take k)).length + (xs.getD k default).us.length := by rw [e1, List.length_append]
    (repeat' (first|((first|refine Zg ?_|refine Zn ?_|refine Zc ?_|refine Zu fun b hb=>?_);conv=>whnf)|(refine Zb ?_ ?_<;>(intro h;first|exact Zx|conv=>whnf))))
    all_goals (try dsimp only [Int.toNat_natCast] at *)
    (repeat' (first|((first|refine Zg ?_|refine Zn ?_|refine Zc ?_|refine Zu fun b hb=>?_);conv=>whnf)|(refine Zb ?_ ?_<;>(intro h;first|exact Zx|conv=>whnf))))
    all_goals first|(exfalso; omega)|skip
    refine ⟨k + 1, by omega, by omega, ?_, ?_, ?_, ?_⟩
    all_goals (repeat' (first|exact Yq|exact Yi (by first|rfl|exact e2.symm|omega)|exact Yo (by first|rfl|exact e2.symm|omega)|exact Ye (by first|rfl|exact e2.symm|omega)|refine ⟨_, rfl, Yb ?_, rfl⟩|refine ⟨_, rfl, Yw (by first|rfl|exact e2.symm|omega) ?_, rfl⟩|refine And.intro ?_ ?_))
    all_goals (rw [e1]; exact rowF_app rfl fun i hi j hj => Dle.refl _)
  obtain rfl : k = xs.length := by omega
  rw [List.take_length] at *
  generalize hus : alU xs = us at *
  have hcb := cnt_bnd hv
  (repeat' (first|((first|refine Zg ?_|refine Zn ?_|refine Zc ?_|refine Zu fun b hb=>?_);conv=>whnf)|(refine Zb ?_ ?_<;>(intro h;first|exact Zx|conv=>whnf))))
  refine (W.loopK (ι := Nat) [1, 5, 7, 33, 34] [5, 31] (fun k => [(35, iA k), (6, iA (cnt (us.take k)))]) (fun _ => []) (fun k => k ≤ us.length) (fun k => us.length - k) 0 (Nat.zero_le _) ?_ ?_ ?_)
  · exact Yz
  · exact Yz
  conv => whnf
  intro k hk
  by_cases hk' : k < us.length
  · have hx := hv _ (getD_in hk')
    have hc0 := hcb k hk
    have e1 := cnt_up hk'
    unfold duOk at hx
    (repeat' (first|((first|refine Zv 11 ?_|refine Zn ?_|refine Zc ?_|refine Zu fun b hb=>?_);conv=>whnf)|(refine Zb ?_ ?_<;>(intro h;first|exact Zx|conv=>whnf))))
    all_goals (try dsimp only [Int.toNat_natCast] at *)
    all_goals (try simp only [Nat.zero_add] at *)
    (repeat' (first|((first|refine Zv 11 ?_|refine Zn ?_|refine Zc ?_|refine Zu fun b hb=>?_);conv=>whnf)|(refine Zb ?_ ?_<;>(intro h;first|exact Zx|conv=>whnf))))
    all_goals (try dsimp only [Int.toNat_natCast] at *)
    all_goals (try simp only [Nat.zero_add] at *)
    (repeat' (first|((first|refine Zg ?_|refine Zn ?_|refine Zc ?_|refine Zu fun b hb=>?_);conv=>whnf)|(refine Zb ?_ ?_<;>(intro h;first|exact Zx|conv=>whnf))))
    all_goals first|(exfalso; omega)|skip
    refine ⟨k + 1, by omega, by omega, ?_, ?_, ?_, ?_⟩
    all_goals (repeat' (first|exact Yq|exact Yi (by first|rfl|exact e1.symm|omega)|exact Yo (by first|rfl|exact e1.symm|omega)|exact Ye (by first|rfl|exact e1.symm|omega)|refine ⟨_, rfl, Yb ?_, rfl⟩|refine ⟨_, rfl, Yw (by first|rfl|exact e1.symm|omega) ?_, rfl⟩|refine And.intro ?_ ?_))
  obtain rfl : k = us.length := by omega
  rw [List.take_length] at *
  have hsr := scSum_rng hs
  (repeat' (first|((first|refine Zg ?_|refine Zn ?_|refine Zc ?_|refine Zu fun b hb=>?_);conv=>whnf)|(refine Zb ?_ ?_<;>(intro h;first|exact Zx|conv=>whnf))))
  refine (W.loopK (ι := Nat) [1, 5, 6, 47, 48] [5, 31] (fun k => [(49, iA k), (7, iA (sc.take k).sum)]) (fun _ => []) (fun k => k ≤ sc.length) (fun k => sc.length - k) 0 (Nat.zero_le _) ?_ ?_ ?_)
  · exact Yz
  · exact Yz
  conv => whnf
  intro k hk
  by_cases hk' : k < sc.length
  · have hx := hs _ (getD_in hk')
    have hc0 := hsr k hk
    have e1 : (sc.take (k + 1)).sum = (sc.take k).sum + sc.getD k default := by rw [take_snoc sc k hk']; simp
    (repeat' (first|((first|refine Zv 16 ?_|refine Zn ?_|refine Zc ?_|refine Zu fun b hb=>?_);conv=>whnf)|(refine Zb ?_ ?_<;>(intro h;first|exact Zx|conv=>whnf))))
    all_goals (try dsimp only [Int.toNat_natCast] at *)
    all_goals (try simp only [Nat.zero_add] at *)
    (repeat' (first|((first|refine Zg ?_|refine Zn ?_|refine Zc ?_|refine Zu fun b hb=>?_);conv=>whnf)|(refine Zb ?_ ?_<;>(intro h;first|exact Zx|conv=>whnf))))
    all_goals first|(exfalso; omega)|skip
    refine ⟨k + 1, by omega, by omega, ?_, ?_, ?_, ?_⟩
    all_goals (repeat' (first|exact Yq|exact Yi (by first|rfl|exact e1.symm|omega)|exact Yo (by first|rfl|exact e1.symm|omega)|exact Ye (by first|rfl|exact e1.symm|omega)|refine ⟨_, rfl, Yb ?_, rfl⟩|refine ⟨_, rfl, Yw (by first|rfl|exact e1.symm|omega) ?_, rfl⟩|refine And.intro ?_ ?_))
  obtain rfl : k = sc.length := by omega
  rw [List.take_length] at *
  have hN : us.length ≤ 1024 := by omega
  have hC := hcb us.length (Nat.le_refl _)
  have hW := hsr sc.length (Nat.le_refl _)
  rw [List.take_length] at hC hW
  have hq := dqP_rng (us := us) (sc := sc) ⟨hC.1, by omega⟩ hs hw
  clear hcb hlen hb
  (repeat' (first|((first|refine Zg ?_|refine Zn ?_|refine Zc ?_|refine Zu fun b hb=>?_);conv=>whnf)|(refine Zb ?_ ?_<;>(intro h;first|exact Zx|conv=>whnf))))
  refine (W.loopK (ι := Nat × List Sl × List Sl) [6, 7, 14, 15, 61, 62] [] (fun s => [(63, iA s.1), (16, iA (sc.take s.1).sum), (17, iA (dqP us sc s.1))]) (fun s => [(5, .blk 43 [poolR 31 s.2.1 s.2.2]), (31, .row 63 3 (s.2.1 ++ s.2.2).length (rowF slE (s.2.1 ++ s.2.2))), (60, .row 43 1 sc.length (outF us sc s.1))])
    (fun s => s.1 ≤ sc.length ∧ s.2.2 = dropU (dqP us sc s.1) us ∧ (s.2.1 ++ s.2.2).length ≤ 10000) (fun s => sc.length - s.1) (0, [], us) ⟨Nat.zero_le _, by rw [hq.2.1, dropU_zero], by simp; omega⟩ ?_ ?_ ?_)
  · (repeat' (first|exact Yq|exact Yi (by first|rfl|exact hq.2.1.symm|omega)|exact Yo (by first|rfl|exact hq.2.1.symm|omega)|exact Ye (by first|rfl|exact hq.2.1.symm|omega)|refine ⟨_, rfl, Yb ?_, rfl⟩|refine ⟨_, rfl, Yw (by first|rfl|exact hq.2.1.symm|omega) ?_, rfl⟩|refine And.intro ?_ ?_))
  · (repeat' (first|exact Yq|exact Yi (by first|rfl|exact hq.2.1.symm|omega)|exact Yo (by first|rfl|exact hq.2.1.symm|omega)|exact Ye (by first|rfl|exact hq.2.1.symm|omega)|refine ⟨_, rfl, Yb ?_, rfl⟩|refine ⟨_, rfl, Yw (by first|rfl|exact hq.2.1.symm|omega) ?_, rfl⟩|refine And.intro ?_ ?_))
    · rcases us with _|⟨x, t⟩ <;> exact AVle.refl _
    · exact fun i hi j hj => Dle.of_eq (by obtain rfl : j = 0 := by omega
                                           rfl)
  conv => whnf
  intro ⟨k, g, al⟩ ⟨p1, p2, p3⟩
  simp only at p1 p2 p3
  dsimp only
  by_cases hk2 : k < sc.length
  · have hx := hs _ (getD_in hk2)
    have hr0 := hsr k p1
    have e1 : (sc.take (k + 1)).sum = (sc.take k).sum + sc.getD k default := by rw [take_snoc sc k hk2]; simp
    have hr1 := hsr (k + 1) hk2
    have hq0 := hq.1 k
    have hq1 := hq.1 (k + 1)
    have hqm := hq.2.2 k hk2
    have hmd := mulDiv_t (cnt us) (sc.take (k + 1)).sum sc.sum (by omega) (by omega) (by omega) (by show dqP us sc (k + 1) < _; omega)
    have hm2 : cnt us * (sc.take (k + 1)).sum / sc.sum = dqP us sc (k + 1) := rfl
    rw [hm2] at hmd
    rw [e1] at hmd hr1
    have hR := dlF_eq al g [] (dqP us sc (k + 1) - dqP us sc k)
    have hRl := dlF_len al g [] (dqP us sc (k + 1) - dqP us sc k)
    have hln : ∀ y ∈ us, lnOk y := fun y hy => (hv y hy).2.1
    have hnx := nextR_h (dqP us sc (k + 1) - dqP us sc k) g al (by omega) (by rw [p2]; exact dropU_ok _ _ hv) p3
    (repeat' (first|((first|refine Zv 25 ?_|refine Zn ?_|refine Zc ?_|refine Zu fun b hb=>?_);conv=>whnf)|(refine Zb ?_ ?_<;>(intro h;first|exact Zx|conv=>whnf))))
    all_goals (try dsimp only [Int.toNat_natCast] at *)
    all_goals (try simp only [Nat.zero_add] at *)
    generalize dlF (dqP us sc (k + 1) - dqP us sc k) g al [] = R at *
    obtain ⟨g2, al2, l2⟩ := R
    simp only [Prod.mk.injEq] at hR hRl hnx
    obtain ⟨hR1, hR2⟩ := hR
    rw [p2, dropU_add us _ _ (by omega) (by omega) hln, show dqP us sc (k + 1) - dqP us sc k + dqP us sc k = dqP us sc (k + 1) by omega] at hR1
    rw [p2, takeU_btw us _ _ (by omega) (by omega) hln] at hR2
    have hrow := outF_set us sc k (slD l2) (by rw [hR2])
    (repeat' (first|((first|refine Zg ?_|refine Zn ?_|refine Zc ?_|refine Zu fun b hb=>?_|refine Zy hmd ?_|refine ExCall.byH hnx (AVsLe.refl _) (isH.have ⟨rfl, rfl, trivial⟩) ?_);conv=>whnf)|(refine Zb ?_ ?_<;>(intro h;first|exact Zx|conv=>whnf))))
    all_goals first|(exfalso; omega)|skip
    refine ⟨(k + 1, g2, al2), ⟨by simp only; omega, hR1, by simp only; omega⟩, by simp only; omega, ?_, ?_, ?_, ?_⟩
    all_goals (repeat' (first|exact Yq|exact Yi (by first|rfl|exact e1.symm|omega)|exact Yo (by first|rfl|exact e1.symm|omega)|exact Ye (by first|rfl|exact e1.symm|omega)|refine ⟨_, rfl, Yb ?_, rfl⟩|refine ⟨_, rfl, Yw (by first|rfl|exact e1.symm|omega) ?_, rfl⟩|refine And.intro ?_ ?_))
    exact fun i hi j hj => by
      have h5 := hrow sc.length i hi j hj
      rw [show 0 + ((k : Int)).toNat = k by simp]
      exact h5
  obtain rfl : k = sc.length := by omega
  (repeat' (first|((first|refine Zg ?_|refine Zn ?_|refine Zc ?_|refine Zu fun b hb=>?_);conv=>whnf)|(refine Zb ?_ ?_<;>(intro h;first|exact Zx|conv=>whnf))))
  refine RowIs.res (enc := fun (us : List Sl) (_ : Nat) => slD us) (us := dealL us sc) rfl ⟨by simp [dealL], fun i hi j hj => ?_⟩ rfl
  have hi' : i < sc.length := by simpa using hi
  refine Dle.of_eq ?_
  unfold outF rowF dealL
  rw [if_pos hi', List.getD_eq_getElem?_getD, List.getElem?_map, List.getElem?_range hi']
  rfl
end Go.Proofs.YtacpjihbbmoolaaGreatDoor
