/- Recipes that are made; the laws of Make and of Batches. -/
import Derived.Test.YtoeghejbgibioaaZ9
namespace Go.Proofs.Ytoeghejbgibioaa
open Go Go.RowKit
set_option linter.unusedVariables false
set_option linter.unusedSimpArgs false
set_option maxRecDepth 100000
set_option maxHeartbeats 4000000
attribute [local irreducible] ResLe AVle ArgLe ArgP EntLe Dle ResH ArgQ strEq strLt

abbrev yg1 : ByteArray := ⟨#[49, 48, 48, 48, 48, 48, 48, 48]⟩
abbrev yg2 : ByteArray := ⟨#[50, 48, 48, 48, 48, 48, 48, 48]⟩
abbrev yg3 : ByteArray := ⟨#[51, 48, 48, 48, 48, 48, 48, 48]⟩
abbrev yg4 : ByteArray := ⟨#[52, 48, 48, 48, 48, 48, 48, 48]⟩
abbrev ygx : ByteArray := ⟨#[48, 48, 48, 48, 48, 48, 48, 49]⟩
abbrev ygy : ByteArray := ⟨#[57, 48, 48, 48, 48, 48, 48, 48]⟩
def ygs : List ByteArray := [yg1, yg2, yg3, yg4]
def ygA (i : Nat) : ByteArray := ygs.getD i ⟨#[]⟩
def ybsE (x : ByteArray) (_ : Nat) : D := .val (.string x)
abbrev bsD (l : List ByteArray) : D := .lst 1 l.length (rowF ybsE l)
theorem ygoods_t : ACalls XX 25 [] (.dat (bsD ygs)) := by
  refine ACalls.of (n := Try.f25.ntmps) XX_ok Try.func25 rfl (by kernel_rfl) rfl rfl (Nat.le_of_ble_eq_true rfl) ?_
  (repeat' (first | refine Zs ?_ | refine Zk ?_ | ((first | refine Za ?_ | refine Zr ?_ | refine Zp ?_ | refine Ze ?_ | refine Zd ?_ | refine Zn ?_ | refine Zc ?_ | refine UnK.mk (fun b hb => ?_)); conv => whnf) | (refine Zb (fun h => ?_) (fun h => ?_) <;> first | exact Zx | (conv => whnf))))
  refine RowIs.res rfl (us := ygs) ⟨rfl, fun i hi j hj => ?_⟩ rfl
  obtain rfl : j = 0 := by omega
  rcases i with _ | _ | _ | _ | i
  all_goals first | exact Dle.refl _ | omega
theorem cOk_of {c : ByteArray} (h : c.size = 8) (h2 : ∀ i, i < 8 → 48 ≤ byteAt c i ∧ byteAt c i ≤ 57) : cOk c := ⟨h, h2⟩
theorem ygA_ok : ∀ i, i < 4 → cOk (ygA i) := fun i hi => by
  rcases i with _ | _ | _ | _ | i
  all_goals first | (exfalso; omega) | skip
  all_goals (refine ⟨rfl, fun j hj => ?_⟩)
  all_goals (rcases j with _ | _ | _ | _ | _ | _ | _ | _ | j)
  all_goals first | (exfalso; omega) | decide
theorem ygA_lt : ∀ i, i < 4 → ∀ j, j < i → strLt (ygA i) (ygA j) = false ∧ strEq (ygA i) (ygA j) = false := by
  decide +kernel
theorem asc_snoc {us : List Nd} {lo hi : Int} (h : ascOk us lo hi) {x : Nd} (hc : cOk x.c) (h1 : lo ≤ x.q) (h2 : x.q ≤ hi) (h3 : ∀ y ∈ us, strLt x.c y.c = false ∧ strEq x.c y.c = false) : ascOk (us ++ [x]) lo hi := fun i hi' => by
  rw [List.length_append, List.length_singleton] at hi'
  have e0 : ∀ j, j < us.length → (us ++ [x]).getD j default = us.getD j default := fun j hj => by
    rw [List.getD_eq_getElem?_getD, List.getD_eq_getElem?_getD, List.getElem?_append_left hj]
  by_cases hil : i < us.length
  · have := h i hil
    unfold ascAt at this ⊢
    rw [e0 i hil, e0 (i - 1) (by omega)]
    exact this
  · obtain rfl : i = us.length := by omega
    have e1 : (us ++ [x]).getD us.length default = x := by simp [List.getD_eq_getElem?_getD]
    unfold ascAt
    rw [e1]
    refine ⟨hc, h1, h2, fun h4 => ?_⟩
    rw [e0 _ (by omega)]
    exact h3 _ (ygetD_in (by omega))
structure MR where
  i : Nat
  a : List Nd
  b : List Nd
  s : List Int
def mrS (L : List Int) (k : Nat) (t : MR) : MR :=
  if nx L (ni L (ni L t.i)) 3 = 0 then ⟨ni L (ni L (ni L t.i)), t.a ++ [⟨ygA k, 1 + sx L t.i 6 1000000000⟩], t.b, t.s⟩
  else if nx L (ni L (ni L t.i)) 3 = 1 then ⟨ni L (ni L (ni L (ni L t.i))), t.a, t.b ++ [⟨ygA k, 1 + sx L t.i 6 1000000000⟩], t.s ++ [nx L (ni L (ni L (ni L t.i))) 4]⟩
  else ⟨ni L (ni L (ni L t.i)), t.a, t.b, t.s⟩
def mrN (L : List Int) : Nat → MR
  | 0 => ⟨ni L 0, [], [], []⟩
  | k + 1 => mrS L k (mrN L k)
structure MrOk (k : Nat) (t : MR) : Prop where
  a1 : ascOk t.a 1 1000000000
  b1 : ascOk t.b 1 1000000000
  a2 : ∀ x ∈ t.a, ∃ j, j < k ∧ x.c = ygA j
  b2 : ∀ x ∈ t.b, ∃ j, j < k ∧ x.c = ygA j
  al : t.a.length ≤ k
  bl : t.b.length ≤ k
  sl : t.s.length = t.b.length
  s1 : ∀ x ∈ t.s, 0 ≤ x ∧ x ≤ 3
theorem mr_ok (L : List Int) : ∀ k, k ≤ 4 → MrOk k (mrN L k)
  | 0, _ => ⟨fun i hi => absurd hi (by simp [mrN]), fun i hi => absurd hi (by simp [mrN]), fun x hx => by simp [mrN] at hx, fun x hx => by simp [mrN] at hx, by simp [mrN], by simp [mrN], by simp [mrN], fun x hx => by simp [mrN] at hx⟩
  | k + 1, hk => by
    have h := mr_ok L k (by omega)
    have q := sx_rng L (mrN L k).i (few := 6) (n := 1000000000) (by decide) (by decide)
    have hw : ∀ us : List Nd, (∀ x ∈ us, ∃ j, j < k ∧ x.c = ygA j) → ∀ y ∈ us, strLt (ygA k) y.c = false ∧ strEq (ygA k) y.c = false := fun us hu y hy => by
      obtain ⟨j, hj, e⟩ := hu y hy
      rw [e]
      exact ygA_lt k (by omega) j hj
    have up : ∀ us : List Nd, (∀ x ∈ us, ∃ j, j < k ∧ x.c = ygA j) → ∀ x ∈ us, ∃ j, j < k + 1 ∧ x.c = ygA j := fun us hu x hx => by
      obtain ⟨j, hj, e⟩ := hu x hx
      exact ⟨j, by omega, e⟩
    have up2 : ∀ (us : List Nd) (v : Int), (∀ x ∈ us, ∃ j, j < k ∧ x.c = ygA j) → ∀ x ∈ us ++ [(⟨ygA k, v⟩ : Nd)], ∃ j, j < k + 1 ∧ x.c = ygA j := fun us v hu x hx => by
      rcases List.mem_append.1 hx with hx | hx
      · exact up us hu x hx
      · rw [List.mem_singleton] at hx; subst hx; exact ⟨k, by omega, rfl⟩
    show MrOk (k + 1) (mrS L k (mrN L k))
    have al := h.al
    have bl := h.bl
    unfold mrS
    split
    · exact ⟨asc_snoc h.a1 (ygA_ok k (by omega)) (by simp only; omega) (by simp only; omega) (hw _ h.a2), h.b1, up2 _ _ h.a2, up _ h.b2, by simp; omega, by simp only; omega, h.sl, h.s1⟩
    split
    · refine ⟨h.a1, asc_snoc h.b1 (ygA_ok k (by omega)) (by simp only; omega) (by simp only; omega) (hw _ h.b2), up _ h.a2, up2 _ _ h.b2, by simp only; omega, by simp; omega, by simp [h.sl], fun x hx => ?_⟩
      rcases List.mem_append.1 hx with hx | hx
      · exact h.s1 x hx
      · rw [List.mem_singleton] at hx
        subst hx
        have := nx_rng L (ni L (ni L (ni L (mrN L k).i))) (m := 4) (by decide)
        omega
    · exact ⟨h.a1, h.b1, up _ h.a2, up _ h.b2, by simp only; omega, by simp only; omega, h.sl, h.s1⟩
def mrI (t : MR) : List Nd := if t.a.length = 0 then [⟨ygx, 2⟩] else t.a
def mrO (t : MR) : List Nd := if t.b.length = 0 then [⟨ygy, 3⟩] else t.b
def mrC (t : MR) : List Int := if t.b.length = 0 then [2] else t.s.set 0 (t.s.getD 0 0 + 1)
theorem ygx_ok : cOk ygx ∧ cOk ygy := by
  constructor
  all_goals (refine ⟨rfl, fun j hj => ?_⟩)
  all_goals (rcases j with _ | _ | _ | _ | _ | _ | _ | _ | j)
  all_goals first | (exfalso; omega) | decide
theorem mr_yr (L : List Int) {id : Int} (hid : 1 ≤ id ∧ id ≤ 1000000) : yrOk ⟨id, mrI (mrN L 4), mrO (mrN L 4), mrC (mrN L 4)⟩ := by
  have h := mr_ok L 4 (by omega)
  generalize mrN L 4 = t at *
  have al := h.al
  have bl := h.bl
  have sl := h.sl
  have hI : ndsOk (mrI t) := by
    unfold mrI
    split
    · exact ⟨asc_one ygx_ok.1 (by decide) (by decide), by decide, by decide⟩
    · exact ⟨h.a1, by omega, by omega⟩
  have hO : ndsOk (mrO t) := by
    unfold mrO
    split
    · exact ⟨asc_one ygx_ok.2 (by decide) (by decide), by decide, by decide⟩
    · exact ⟨h.b1, by omega, by omega⟩
  refine ⟨hid, hI, hO, ?_, ?_, ?_⟩
  · show (mrC t).length = (mrO t).length
    unfold mrC mrO
    split
    · rfl
    · simpa using sl
  · show shOk (mrC t)
    intro i hi
    unfold mrC at hi ⊢
    split at hi
    · rename_i h0
      rw [if_pos h0]
      have hi' : i < 1 := hi
      obtain rfl : i = 0 := by omega
      decide
    · rename_i h0
      rw [if_neg h0]
      rw [List.length_set] at hi
      have h1 : ∀ j, j < t.s.length → 0 ≤ t.s.getD j 0 ∧ t.s.getD j 0 ≤ 3 := fun j hj => by
        rw [List.getD_eq_getElem?_getD, List.getElem?_eq_getElem hj]
        exact h.s1 _ (List.getElem_mem _)
      show 0 ≤ (t.s.set 0 (t.s.getD 0 0 + 1)).getD i 0 ∧ (t.s.set 0 (t.s.getD 0 0 + 1)).getD i 0 ≤ 1000000
      rw [getD_set]
      have h2 := h1 i hi
      have h3 := h1 0 (by omega)
      split <;> omega
  · show (mrC t).sum ≠ 0
    unfold mrC
    split
    · decide
    · rename_i h0
      obtain ⟨a, l, e⟩ : ∃ a l, t.s = a :: l := by
        cases hs : t.s with
        | nil => rw [hs] at sl; simp at sl; omega
        | cons a l => exact ⟨a, l, rfl⟩
      have h1 := h.s1
      rw [e] at h1 ⊢
      have h2 := h1 a (by simp)
      have h3 : 0 ≤ l.sum := by
        have : ∀ l : List Int, (∀ x ∈ l, 0 ≤ x) → 0 ≤ l.sum := fun l => by
          induction l with
          | nil => intro _; simp
          | cons x l ih => intro h; rw [List.sum_cons]; have := h x (by simp); have := ih fun y hy => h y (by simp [hy]); omega
        exact this l fun x hx => (h1 x (by simp [hx])).1
      show ((a + 1) :: l).sum ≠ 0
      rw [List.sum_cons]
      omega
def drR (n : Nat) : List (Nat × (List Nat × List (Option Nat × Option Nat))) := [(18, [0, 1, 0, 4, 12, 28, 60, 127, 255], [(some 69, none), (some 70, none), (some 71, none), (some 72, none), (some 73, none), (some 74, none), (some 75, none), (some 76, none), (none, some n)])]
theorem ymrecipe_t (L : List Int) (hL : L.length ≤ 9223372036854775807) : ACalls XX 9 [.dat (ilst L)] (rcA ⟨1 + nx L 0 20, mrI (mrN L 4), mrO (mrN L 4), mrC (mrN L 4)⟩) := by
  have kg := ygoods_t
  have n0 := nx_rng L 0 (m := 20) (by decide)
  have k0 := next_h L 0 20 hL (by decide) (by decide)
  have hend := mr_ok L 4 (by omega)
  have hyl : ygs.length = 4 := rfl
  refine ACalls.of (n := Try.f9.ntmps) XX_ok Try.func9 rfl (by kernel_rfl) rfl rfl (Nat.le_of_ble_eq_true rfl) ?_
  (repeat' (first | refine Zs ?_ | refine Zk ?_ | ((first | refine Za ?_ | refine Zr ?_ | refine Zp ?_ | refine Ze ?_ | refine Zd ?_ | refine W.drawT dr9 rfl mixed rfl ?_ | refine Zn ?_ | refine Zc ?_ | refine UnK.mk (fun b hb => ?_) | refine Zy kg ?_ | refine Zz kg ?_ | refine ExCall.h [(5000, 10)] rfl k0 rfl ⟨rfl, trivial⟩ ?_ | refine CallK.h [(5000, 10)] rfl k0 rfl rfl ⟨rfl, trivial⟩ rfl rfl ?_); conv => whnf) | (refine Zb (fun h => ?_) (fun h => ?_) <;> first | exact Zx | (conv => whnf))))
  refine (W.adoptB 5 1 36 31 2 (rowF ndE []) rfl rfl rfl rfl rfl rfl ?_); conv => whnf
  refine (W.adoptB 5 2 44 31 2 (rowF ndE []) rfl rfl rfl rfl rfl rfl ?_); conv => whnf
  refine (W.adoptB 5 3 51 3 1 (rowF iE []) rfl rfl rfl rfl rfl rfl ?_); conv => whnf
  refine (W.loopK (ι := Nat) [2, 3, 4, 5] [2] (fun k => [(6, iA k)]) (fun k => [(10, srcE L (mrN L k).i), (5, .blk 25 [iA (1 + nx L 0 20), .own 36 2 0 (mrN L k).a.length, .own 44 2 0 (mrN L k).b.length, .own 51 1 0 (mrN L k).s.length]), (36, .row 31 2 (mrN L k).a.length (rowF ndE (mrN L k).a)), (44, .row 31 2 (mrN L k).b.length (rowF ndE (mrN L k).b)), (51, .row 3 1 (mrN L k).s.length (rowF iE (mrN L k).s))]) (fun k => k ≤ 4) (fun k => 4 - k) 0 (Nat.zero_le _) ?_ ?_ ?_)
  · exact Yz
  · exact Yz
  conv => whnf
  intro k hk
  have hr := mr_ok L k hk
  have al := hr.al
  have bl := hr.bl
  have sl := hr.sl
  by_cases hk' : k < 4
  · have eS : mrN L (k + 1) = mrS L k (mrN L k) := rfl
    unfold mrS at eS
    have q := sx_rng L (mrN L k).i (few := 6) (n := 1000000000) (by decide) (by decide)
    have k1 := small_h L (mrN L k).i 6 1000000000 hL (by decide) (by decide) (by decide) (by decide)
    have k2 := next_h L (ni L (ni L (mrN L k).i)) 3 hL (by decide) (by decide)
    have k3 := next_h L (ni L (ni L (ni L (mrN L k).i))) 4 hL (by decide) (by decide)
    have n2 := nx_rng L (ni L (ni L (mrN L k).i)) (m := 3) (by decide)
    obtain ⟨t2, ht2⟩ : ∃ t2, mrN L (k + 1) = t2 := ⟨_, rfl⟩
    rw [ht2] at eS
    generalize mrN L k = t at *
    clear hr hend
    obtain ⟨i, a, b, s⟩ := t
    dsimp only at *
    generalize nx L (ni L (ni L (ni L i))) 4 = w at *
    generalize nx L (ni L (ni L i)) 3 = d at *
    generalize sx L i 6 1000000000 = q1 at *
    have hg : ∀ n : Nat, n = k → ygs.getD n default = ygA k := fun n hn => by subst hn; rcases n with _ | _ | _ | _ | n <;> first | rfl | omega
    (repeat' (first | refine Zs ?_ | refine Zk ?_ | ((first | refine Za ?_ | refine Zr ?_ | refine Zp ?_ | refine Ze ?_ | refine Zd ?_ | refine W.drawT dr9 rfl mixed rfl ?_ | refine Zn ?_ | refine Zc ?_ | refine UnK.mk (fun b hb => ?_) | refine ExCall.h [(5000, 10)] rfl k1 rfl ⟨rfl, trivial⟩ ?_ | refine CallK.h [(5000, 10)] rfl k1 rfl rfl ⟨rfl, trivial⟩ rfl rfl ?_ | refine ExCall.h [(5000, 10)] rfl k2 rfl ⟨rfl, trivial⟩ ?_ | refine CallK.h [(5000, 10)] rfl k2 rfl rfl ⟨rfl, trivial⟩ rfl rfl ?_ | refine ExCall.h [(5000, 10)] rfl k3 rfl ⟨rfl, trivial⟩ ?_ | refine CallK.h [(5000, 10)] rfl k3 rfl rfl ⟨rfl, trivial⟩ rfl rfl ?_); conv => whnf) | (refine Zb (fun h => ?_) (fun h => ?_) <;> first | exact Zx | (conv => whnf))))
    · rw [if_pos (by assumption)] at eS
      refine ⟨k + 1, by omega, by omega, ?_, ?_, ?_, ?_⟩
      all_goals (try rw [ht2, eS])
      all_goals (try dsimp only)
      all_goals (repeat' (first | exact trivial | exact Yr | exact Yi (by first | rfl | (simp; done) | omega) | exact Yo (by first | rfl | (simp; done) | omega) | exact Yd | exact Yn | exact Ye (by first | rfl | (simp; done) | omega) | exact ⟨_, rfl, Yf, rfl⟩ | refine ⟨_, rfl, Yb ?_, rfl⟩ | refine ⟨_, rfl, Yw (by first | rfl | (simp; done) | omega) ?_, rfl⟩ | refine And.intro ?_ ?_))
      refine rowF_snoc rfl fun j hj => ?_
      rcases j with _ | _ | j
      all_goals first | exact Dle.refl _ | (exact Dle.of_eq (by rw [hg _ (by omega)]; rfl)) | omega
    · rw [if_neg (by assumption), if_pos (by assumption)] at eS
      refine ⟨k + 1, by omega, by omega, ?_, ?_, ?_, ?_⟩
      all_goals (try rw [ht2, eS])
      all_goals (try dsimp only)
      all_goals (repeat' (first | exact trivial | exact Yr | exact Yi (by first | rfl | (simp; done) | omega) | exact Yo (by first | rfl | (simp; done) | omega) | exact Yd | exact Yn | exact Ye (by first | rfl | (simp; done) | omega) | exact ⟨_, rfl, Yf, rfl⟩ | refine ⟨_, rfl, Yb ?_, rfl⟩ | refine ⟨_, rfl, Yw (by first | rfl | (simp; done) | omega) ?_, rfl⟩ | refine And.intro ?_ ?_))
      · refine rowF_snoc rfl fun j hj => ?_
        rcases j with _ | _ | j
        all_goals first | exact Dle.refl _ | (exact Dle.of_eq (by rw [hg _ (by omega)]; rfl)) | omega
      · refine rowF_snoc rfl fun j hj => ?_
        rcases j with _ | j
        all_goals first | exact Dle.refl _ | omega
    · rw [if_neg (by assumption), if_neg (by assumption)] at eS
      refine ⟨k + 1, by omega, by omega, ?_, ?_, ?_, ?_⟩
      all_goals (try rw [ht2, eS])
      all_goals (try dsimp only)
      all_goals exact Yz
  · obtain rfl : k = 4 := by omega
    unfold mrI mrO mrC
    generalize mrN L 4 = t at *
    obtain ⟨i, a, b, s⟩ := t
    dsimp only at *
    by_cases hb : b.length = 0
    · rw [if_pos hb, if_pos hb]
      by_cases ha : a.length = 0
      · rw [if_pos ha]
        (repeat' (first | refine Zs ?_ | refine Zk ?_ | ((first | refine Za ?_ | refine Zr ?_ | refine Zp ?_ | refine Ze ?_ | refine Zd ?_ | refine Zn ?_ | refine Zc ?_ | refine UnK.mk (fun b hb => ?_)); conv => whnf) | (refine Zb (fun h => ?_) (fun h => ?_) <;> first | exact Zx | (conv => whnf))))
        all_goals first | (exfalso; omega) | skip
        refine W.drawT (drR 66) rfl mixed rfl ?_
        conv => whnf
        (repeat' (first | refine Zs ?_ | refine Zk ?_ | ((first | refine Za ?_ | refine Zr ?_ | refine Zp ?_ | refine Ze ?_ | refine Zd ?_ | refine W.drawT dr9 rfl mixed rfl ?_ | refine Zn ?_ | refine Zc ?_ | refine UnK.mk (fun b hb => ?_)); conv => whnf) | (refine Zb (fun h => ?_) (fun h => ?_) <;> first | exact Zx | (conv => whnf))))
        all_goals (repeat' (first | exact trivial | exact Zm | exact Zl | exact ResLe.row0 rfl | exact Zi (by first | rfl | omega) | exact Zo (h := by first | rfl | omega) | exact ResLe.bo rfl rfl Iff.rfl | refine ResLe.agg ?_ | refine And.intro ?_ ?_ | ((conv => whnf); first | exact Zl | exact ResLe.row0 rfl | exact Zi (by first | rfl | omega) | exact Zo (h := by first | rfl | omega) | exact ResLe.bo rfl rfl Iff.rfl | refine ResLe.agg ?_ | refine And.intro ?_ ?_)))
        all_goals (refine RowIs.res rfl ⟨rfl, fun i hi j hj => ?_⟩ rfl)
        all_goals (obtain rfl : i = 0 := by omega)
        all_goals (rcases j with _ | _ | j)
        all_goals first | exact Dle.refl _ | exact Dle.of_eq rfl | omega
      · rw [if_neg ha]
        (repeat' (first | refine Zs ?_ | refine Zk ?_ | ((first | refine Za ?_ | refine Zr ?_ | refine Zp ?_ | refine Ze ?_ | refine Zd ?_ | refine Zn ?_ | refine Zc ?_ | refine UnK.mk (fun b hb => ?_)); conv => whnf) | (refine Zb (fun h => ?_) (fun h => ?_) <;> first | exact Zx | (conv => whnf))))
        all_goals first | (exfalso; omega) | skip
        refine W.drawT (drR 66) rfl mixed rfl ?_
        conv => whnf
        (repeat' (first | refine Zs ?_ | refine Zk ?_ | ((first | refine Za ?_ | refine Zr ?_ | refine Zp ?_ | refine Ze ?_ | refine Zd ?_ | refine W.drawT dr9 rfl mixed rfl ?_ | refine Zn ?_ | refine Zc ?_ | refine UnK.mk (fun b hb => ?_)); conv => whnf) | (refine Zb (fun h => ?_) (fun h => ?_) <;> first | exact Zx | (conv => whnf))))
        all_goals (repeat' (first | exact trivial | exact Zm | exact Zl | exact ResLe.row0 rfl | exact Zi (by first | rfl | omega) | exact Zo (h := by first | rfl | omega) | exact ResLe.bo rfl rfl Iff.rfl | refine ResLe.agg ?_ | refine And.intro ?_ ?_ | ((conv => whnf); first | exact Zl | exact ResLe.row0 rfl | exact Zi (by first | rfl | omega) | exact Zo (h := by first | rfl | omega) | exact ResLe.bo rfl rfl Iff.rfl | refine ResLe.agg ?_ | refine And.intro ?_ ?_)))
        all_goals (refine RowIs.res rfl ⟨rfl, fun i hi j hj => ?_⟩ rfl)
        all_goals (obtain rfl : i = 0 := by omega)
        all_goals (rcases j with _ | _ | j)
        all_goals first | exact Dle.refl _ | exact Dle.of_eq rfl | omega
    have hs0 : 0 ≤ s.getD (0 + Int.toNat 0) default ∧ s.getD (0 + Int.toNat 0) default ≤ 3 := hend.s1 _ (ygetD_in (by show 0 < s.length; omega))
    rw [if_neg hb, if_neg hb]
    have hset := RowIs.set (RowIs.refl iE 1 s) (k := 0) (x := s.getD 0 0 + 1) (ds := [.val (.int .i64 (s.getD (0 + Int.toNat 0) default + 1))]) rfl (fun q hq => by
      obtain rfl : q = 0 := by omega
      exact Dle.refl _)
    by_cases ha : a.length = 0
    · rw [if_pos ha]
      (repeat' (first | refine Zs ?_ | refine Zk ?_ | ((first | refine Za ?_ | refine Zr ?_ | refine Zp ?_ | refine Ze ?_ | refine Zd ?_ | refine Zn ?_ | refine Zc ?_ | refine UnK.mk (fun b hb => ?_)); conv => whnf) | (refine Zb (fun h => ?_) (fun h => ?_) <;> first | exact Zx | (conv => whnf))))
      all_goals first | (exfalso; omega) | skip
      refine W.drawT (drR 51) rfl mixed rfl ?_
      conv => whnf
      (repeat' (first | refine Zs ?_ | refine Zk ?_ | ((first | refine Za ?_ | refine Zr ?_ | refine Zp ?_ | refine Ze ?_ | refine Zd ?_ | refine W.drawT dr9 rfl mixed rfl ?_ | refine Zn ?_ | refine Zc ?_ | refine UnK.mk (fun b hb => ?_)); conv => whnf) | (refine Zb (fun h => ?_) (fun h => ?_) <;> first | exact Zx | (conv => whnf))))
      all_goals (repeat' (first | exact trivial | exact Zm | exact Zl | exact ResLe.row0 rfl | exact Zi (by first | rfl | omega) | exact Zo (h := by first | rfl | omega) | exact ResLe.bo rfl rfl Iff.rfl | refine ResLe.agg ?_ | refine And.intro ?_ ?_ | ((conv => whnf); first | exact Zl | exact ResLe.row0 rfl | exact Zi (by first | rfl | omega) | exact Zo (h := by first | rfl | omega) | exact ResLe.bo rfl rfl Iff.rfl | refine ResLe.agg ?_ | refine And.intro ?_ ?_)))
      all_goals first | exact RowIs.res rfl hset rfl | skip
      all_goals (refine RowIs.res rfl ⟨rfl, fun i hi j hj => ?_⟩ rfl)
      all_goals (obtain rfl : i = 0 := by omega)
      all_goals (rcases j with _ | _ | j)
      all_goals first | exact Dle.refl _ | exact Dle.of_eq rfl | omega
    · rw [if_neg ha]
      (repeat' (first | refine Zs ?_ | refine Zk ?_ | ((first | refine Za ?_ | refine Zr ?_ | refine Zp ?_ | refine Ze ?_ | refine Zd ?_ | refine Zn ?_ | refine Zc ?_ | refine UnK.mk (fun b hb => ?_)); conv => whnf) | (refine Zb (fun h => ?_) (fun h => ?_) <;> first | exact Zx | (conv => whnf))))
      all_goals first | (exfalso; omega) | skip
      refine W.drawT (drR 51) rfl mixed rfl ?_
      conv => whnf
      (repeat' (first | refine Zs ?_ | refine Zk ?_ | ((first | refine Za ?_ | refine Zr ?_ | refine Zp ?_ | refine Ze ?_ | refine Zd ?_ | refine W.drawT dr9 rfl mixed rfl ?_ | refine Zn ?_ | refine Zc ?_ | refine UnK.mk (fun b hb => ?_)); conv => whnf) | (refine Zb (fun h => ?_) (fun h => ?_) <;> first | exact Zx | (conv => whnf))))
      all_goals (repeat' (first | exact trivial | exact Zm | exact Zl | exact ResLe.row0 rfl | exact Zi (by first | rfl | omega) | exact Zo (h := by first | rfl | omega) | exact ResLe.bo rfl rfl Iff.rfl | refine ResLe.agg ?_ | refine And.intro ?_ ?_ | ((conv => whnf); first | exact Zl | exact ResLe.row0 rfl | exact Zi (by first | rfl | omega) | exact Zo (h := by first | rfl | omega) | exact ResLe.bo rfl rfl Iff.rfl | refine ResLe.agg ?_ | refine And.intro ?_ ?_)))
      all_goals first | exact RowIs.res rfl hset rfl | skip
      all_goals (refine RowIs.res rfl ⟨rfl, fun i hi j hj => ?_⟩ rfl)
      all_goals (obtain rfl : i = 0 := by omega)
      all_goals (rcases j with _ | _ | j)
      all_goals first | exact Dle.refl _ | exact Dle.of_eq rfl | omega
end Go.Proofs.Ytoeghejbgibioaa
