/- The law of Batches. -/
import Derived.Test.YtoeghejbgibioaaH5
namespace Go.Proofs.Ytoeghejbgibioaa
open Go Go.RowKit
set_option linter.unusedVariables false
set_option linter.unusedSimpArgs false
set_option maxRecDepth 100000
set_option maxHeartbeats 4000000
attribute [local irreducible] ResLe AVle ArgLe ArgP EntLe Dle ResH ArgQ strEq strLt

theorem btN_le (us : List Nd) (ins : List Nd) : btN us ins ≤ 1000000000000 ∧ ∀ x ∈ ins, btN us ins ≤ qtyS us x.c / x.q := by
  refine rev_ind (P := fun ins : List Nd => btN us ins ≤ 1000000000000 ∧ ∀ x ∈ ins, btN us ins ≤ qtyS us x.c / x.q) ⟨by simp [btN], fun x hx => by cases hx⟩ (fun l x ih => ?_) ins
  rw [btN_snoc]
  obtain ⟨h1, h2⟩ := ih
  refine ⟨by split <;> omega, fun y hy => ?_⟩
  rcases List.mem_append.1 hy with hy | hy
  · have := h2 y hy
    split <;> omega
  · rw [List.mem_singleton] at hy
    subst hy
    split <;> omega
theorem btN_one (us : List Nd) (ins : List Nd) : btN us ins = 1000000000000 ∨ ∃ x ∈ ins, btN us ins = qtyS us x.c / x.q := by
  refine rev_ind (P := fun ins : List Nd => btN us ins = 1000000000000 ∨ ∃ x ∈ ins, btN us ins = qtyS us x.c / x.q) (.inl (by simp [btN])) (fun l x ih => ?_) ins
  rw [btN_snoc]
  split
  · exact .inr ⟨x, by simp, rfl⟩
  · rcases ih with h | ⟨y, hy, h⟩
    · exact .inl h
    · exact .inr ⟨y, by simp [hy], h⟩
def bvS (L : List Int) (ins : List Nd) : Nat → Nat × List Nd
  | 0 => (0, [])
  | k + 1 => (ni L (ni L (bvS L ins k).1), (bvS L ins k).2 ++ [⟨(ins.getD k default).c, sx L (bvS L ins k).1 60 1000000000000⟩])
theorem bv_len (L : List Int) (ins : List Nd) : ∀ k, (bvS L ins k).2.length = k
  | 0 => rfl
  | k + 1 => by simp [bvS, bv_len L ins k]
theorem bv_at (L : List Int) (ins : List Nd) : ∀ k i, i < k → ((bvS L ins k).2.getD i default).c = (ins.getD i default).c ∧ 0 ≤ ((bvS L ins k).2.getD i default).q ∧ ((bvS L ins k).2.getD i default).q < 1000000000000
  | 0, i, h => absurd h (by omega)
  | k + 1, i, h => by
    have hl := bv_len L ins k
    show (((bvS L ins k).2 ++ [_]).getD i default).c = _ ∧ 0 ≤ (((bvS L ins k).2 ++ [_]).getD i default).q ∧ (((bvS L ins k).2 ++ [_]).getD i default).q < 1000000000000
    by_cases hi : i < k
    · rw [List.getD_eq_getElem?_getD, List.getElem?_append_left (by omega), ← List.getD_eq_getElem?_getD]
      exact bv_at L ins k i hi
    · obtain rfl : i = k := by omega
      rw [List.getD_eq_getElem?_getD, List.getElem?_append_right (by omega), hl, Nat.sub_self]
      have := sx_rng L (bvS L ins i).1 (few := 60) (n := 1000000000000) (by decide) (by decide)
      exact ⟨rfl, this⟩
theorem bv_asc (L : List Int) {ins : List Nd} (h : ascOk ins 1 1000000000) : ascOk (bvS L ins ins.length).2 0 1000000000000 := fun i hi => by
  rw [bv_len] at hi
  obtain ⟨e1, e2, e3⟩ := bv_at L ins ins.length i hi
  have h1 := h i hi
  unfold ascAt at h1 ⊢
  rw [e1]
  refine ⟨h1.1, e2, by omega, fun h0 => ?_⟩
  rw [(bv_at L ins ins.length (i - 1) (by omega)).1]
  exact h1.2.2.2 h0
theorem bv_qty (L : List Int) {ins : List Nd} (h : ascOk ins 1 1000000000) {i : Nat} (hi : i < ins.length) : qtyS (bvS L ins ins.length).2 (ins.getD i default).c = ((bvS L ins ins.length).2.getD i default).q := by
  rw [← (bv_at L ins ins.length i hi).1]
  exact qtyS_one (bv_asc L h) (ygetD_in (by rw [bv_len]; exact hi))
def moB (us ins : List Nd) (n : Int) : Nat → Bool
  | 0 => false
  | k + 1 => moB us ins n k || decide ((us.getD k default).q / (ins.getD k default).q < n + 1)
theorem mo_of {us ins : List Nd} {n : Int} {i : Nat} (h : (us.getD i default).q / (ins.getD i default).q < n + 1) : ∀ k, i < k → moB us ins n k = true
  | 0, hk => absurd hk (by omega)
  | k + 1, hk => by
    unfold moB
    by_cases hi : i < k
    · rw [mo_of h k hi]; rfl
    · obtain rfl : i = k := by omega
      rw [decide_eq_true h, Bool.or_true]
theorem lawBatches_t (x0 x1 : List Int) (k0 : x0.length ≤ 9223372036854775807) (k1 : x1.length ≤ 9223372036854775807) : ACalls XX 3 [.dat (ilst x0), .dat (ilst x1)] (bA true) := by
  have hr := ymrecipe_t x0 k0
  have n0 := nx_rng x0 0 (m := 20) (by decide)
  have hy := mr_yr x0 (id := 1 + nx x0 0 20) (by omega)
  obtain ⟨R, hR⟩ : ∃ R : Rc, R = ⟨1 + nx x0 0 20, mrI (mrN x0 4), mrO (mrN x0 4), mrC (mrN x0 4)⟩ := ⟨_, rfl⟩
  rw [← hR] at hr hy
  clear hR
  obtain ⟨id, ins, outs, sc⟩ := R
  obtain ⟨hI, hI1, hI8⟩ := hy.2.1
  dsimp only at hI hI1 hI8
  have hbt := ybatches_t ⟨id, ins, outs, sc⟩ (bvS x1 ins ins.length).2 ⟨hy, by rw [bv_len]; omega, bv_asc x1 hI⟩
  dsimp only at hbt
  have hnl := btN_le (bvS x1 ins ins.length).2 ins
  have hno := btN_one (bvS x1 ins ins.length).2 ins
  have hat := bv_at x1 ins ins.length
  have hat2 : ∀ i, i < ins.length → btN (bvS x1 ins ins.length).2 ins ≤ ((bvS x1 ins ins.length).2.getD i default).q / (ins.getD i default).q := fun i hi => by
    rw [← bv_qty x1 hI hi]
    exact hnl.2 _ (ygetD_in hi)
  have hat3 : ∃ i, i < ins.length ∧ btN (bvS x1 ins ins.length).2 ins = ((bvS x1 ins ins.length).2.getD i default).q / (ins.getD i default).q := by
    rcases hno with h | ⟨x, hx, h⟩
    · have h1 := hat2 0 (by omega)
      have h2 := (hat 0 (by omega)).2
      have h3 := (hI 0 (by omega)).2.1
      have h4 : ((bvS x1 ins ins.length).2.getD 0 default).q / (ins.getD 0 default).q ≤ ((bvS x1 ins ins.length).2.getD 0 default).q := Int.ediv_le_self _ h2.1
      omega
    · obtain ⟨i, hi, rfl⟩ := List.getElem_of_mem hx
      refine ⟨i, hi, ?_⟩
      have := bv_qty x1 hI hi
      rw [ygetD_of hi] at this
      rw [h, this, ygetD_of hi]
  have hn0 : 0 ≤ btN (bvS x1 ins ins.length).2 ins := by
    obtain ⟨i, hi, e⟩ := hat3
    rw [e]
    exact Int.ediv_nonneg (hat i hi).2.1 (by have := (hI i hi).2.1; omega)
  have hmo : moB (bvS x1 ins ins.length).2 ins (btN (bvS x1 ins ins.length).2 ins) ins.length = true := by
    obtain ⟨i, hi, e⟩ := hat3
    exact mo_of (i := i) (by omega) _ hi
  have hbl := bv_len x1 ins ins.length
  refine ACalls.of (n := Try.f3.ntmps) XX_ok Try.func3 rfl (by kernel_rfl) rfl rfl (Nat.le_of_ble_eq_true rfl) ?_
  (repeat' (first | refine Zs ?_ | refine Zk ?_ | ((first | refine Za ?_ | refine Zr ?_ | refine Zp ?_ | refine Ze ?_ | refine Zd ?_ | refine W.drawT dr3 rfl mixed rfl ?_ | refine Zn ?_ | refine Zc ?_ | refine UnK.mk (fun b hb => ?_) | refine Zy hr ?_ | refine Zz hr ?_); conv => whnf) | (refine Zb (fun h => ?_) (fun h => ?_) <;> first | exact Zx | (conv => whnf))))
  refine (W.adopt 6 35 31 2 (rowF ndE []) rfl rfl rfl rfl ?_); conv => whnf
  refine (W.loopK (ι := Nat) [5, 7] [5] (fun k => [(8, iA k), (6, .own 35 2 0 (bvS x1 ins k).2.length)]) (fun k => [(16, srcE x1 (bvS x1 ins k).1), (35, .row 31 2 (bvS x1 ins k).2.length (rowF ndE (bvS x1 ins k).2))]) (fun k => k ≤ ins.length) (fun k => ins.length - k) 0 (Nat.zero_le _) ?_ ?_ ?_)
  · exact Yz
  · exact Yz
  conv => whnf
  intro k hk
  by_cases hk' : k < ins.length
  · have eS : bvS x1 ins (k + 1) = (ni x1 (ni x1 (bvS x1 ins k).1), (bvS x1 ins k).2 ++ [⟨(ins.getD k default).c, sx x1 (bvS x1 ins k).1 60 1000000000000⟩]) := rfl
    have q := sx_rng x1 (bvS x1 ins k).1 (few := 60) (n := 1000000000000) (by decide) (by decide)
    have q2 := small_h x1 (bvS x1 ins k).1 60 1000000000000 k1 (by decide) (by decide) (by decide) (by decide)
    have hbk := bv_len x1 ins k
    obtain ⟨t2, ht2⟩ : ∃ t2, bvS x1 ins (k + 1) = t2 := ⟨_, rfl⟩
    rw [ht2] at eS
    clear hbt hnl hno hat hat2 hat3 hn0 hmo hbl
    generalize bvS x1 ins k = t at *
    obtain ⟨i, us⟩ := t
    dsimp only at *
    generalize sx x1 i 60 1000000000000 = sv at *
    (repeat' (first | refine Zs ?_ | refine Zk ?_ | ((first | refine Za ?_ | refine Zr ?_ | refine Zp ?_ | refine Ze ?_ | refine Zd ?_ | refine W.drawT dr3 rfl mixed rfl ?_ | refine Zn ?_ | refine Zc ?_ | refine UnK.mk (fun b hb => ?_) | refine ExCall.h [(5000, 16)] rfl q2 rfl ⟨rfl, trivial⟩ ?_ | refine CallK.h [(5000, 16)] rfl q2 rfl rfl ⟨rfl, trivial⟩ rfl rfl ?_); conv => whnf) | (refine Zb (fun h => ?_) (fun h => ?_) <;> first | exact Zx | (conv => whnf))))
    all_goals (try dsimp only [Int.toNat_natCast] at *)
    (repeat' (first | refine Zs ?_ | refine Zk ?_ | ((first | refine Za ?_ | refine Zr ?_ | refine Zp ?_ | refine Ze ?_ | refine Zd ?_ | refine W.drawT dr3 rfl mixed rfl ?_ | refine Zn ?_ | refine Zc ?_ | refine UnK.mk (fun b hb => ?_) | refine ExCall.h [(5000, 16)] rfl q2 rfl ⟨rfl, trivial⟩ ?_ | refine CallK.h [(5000, 16)] rfl q2 rfl rfl ⟨rfl, trivial⟩ rfl rfl ?_); conv => whnf) | (refine Zb (fun h => ?_) (fun h => ?_) <;> first | exact Zx | (conv => whnf))))
    all_goals first | (exfalso; omega) | skip
    refine ⟨k + 1, by omega, by omega, ?_, ?_, ?_, ?_⟩
    all_goals (try rw [ht2, eS])
    all_goals (try dsimp only)
    all_goals (repeat' (first | exact trivial | exact Yr | exact Yi (by first | rfl | (simp; done) | omega) | exact Yo (by first | rfl | (simp; done) | omega) | exact Yd | exact Yn | exact Ye (by first | rfl | (simp; done) | omega) | exact ⟨_, rfl, Yf, rfl⟩ | refine ⟨_, rfl, Yb ?_, rfl⟩ | refine ⟨_, rfl, Yw (by first | rfl | (simp; done) | omega) ?_, rfl⟩ | refine And.intro ?_ ?_))
    refine rowF_snoc rfl fun j hj => ?_
    rcases j with _ | _ | j
    all_goals first | exact Dle.refl _ | omega
  obtain rfl : k = ins.length := by omega
  generalize (bvS x1 ins ins.length).2 = us at *
  generalize btN us ins = n at *
  have hun : n ≤ 1000000000000 := hnl.1
  (repeat' (first | refine Zs ?_ | refine Zk ?_ | ((first | refine Zas 8 ?_ | refine Zr ?_ | refine Zp ?_ | refine Ze ?_ | refine Zd ?_ | refine W.drawT dr3 rfl mixed rfl ?_ | refine Zn ?_ | refine Zc ?_ | refine UnK.mk (fun b hb => ?_)); conv => whnf) | (refine Zb (fun h => ?_) (fun h => ?_) <;> first | exact Zx | (conv => whnf))))
  all_goals first | (exfalso; omega) | skip
  refine W.pubD 6 35 rfl rfl ?_
  conv => whnf
  (repeat' (first | refine Zs ?_ | refine Zk ?_ | ((first | refine Za ?_ | refine Zr ?_ | refine Zp ?_ | refine Ze ?_ | refine Zd ?_ | refine W.drawT dr3 rfl mixed rfl ?_ | refine Zn ?_ | refine Zc ?_ | refine UnK.mk (fun b hb => ?_) | refine Zy hbt ?_ | refine Zz hbt ?_); conv => whnf) | (refine Zb (fun h => ?_) (fun h => ?_) <;> first | exact Zx | (conv => whnf))))
  all_goals first | (exfalso; omega) | skip
  refine (W.loopK (ι := Nat) [5, 6, 9] [5] (fun k => [(11, iA k), (10, bA (moB us ins n k))]) (fun _ => []) (fun k => k ≤ ins.length) (fun k => ins.length - k) 0 (Nat.zero_le _) ?_ ?_ ?_)
  · (repeat' (first | exact trivial | exact AVle.refl _ | exact AVle.bo rfl rfl (by simp [moB]) | refine And.intro ?_ ?_))
  · exact Yz
  conv => whnf
  intro k hk
  by_cases hk' : k < ins.length
  · have a1 := hat k hk'
    have a2 := hat2 k hk'
    have a3 := (hI k hk').2.1
    have a4 := (hI k hk').2.2.1
    have eM : moB us ins n (k + 1) = (moB us ins n k || decide ((us.getD k default).q / (ins.getD k default).q < n + 1)) := rfl
    obtain ⟨m2, hm2⟩ : ∃ m2, moB us ins n (k + 1) = m2 := ⟨_, rfl⟩
    rw [hm2] at eM
    generalize moB us ins n k = m at *
    clear hbt hnl hno hat hat2 hat3 hmo
    (repeat' (first | refine Zs ?_ | refine Zk ?_ | ((first | refine Za ?_ | refine Zr ?_ | refine Zp ?_ | refine Ze ?_ | refine Zd ?_ | refine W.drawT dr3 rfl mixed rfl ?_ | refine Zn ?_ | refine Zc ?_ | refine UnK.mk (fun b hb => ?_)); conv => whnf) | (refine Zb (fun h => ?_) (fun h => ?_) <;> first | exact Zx | (conv => whnf))))
    all_goals (try dsimp only [Int.toNat_natCast] at *)
    (repeat' (first | refine Zs ?_ | refine Zk ?_ | ((first | refine Za ?_ | refine Zr ?_ | refine Zp ?_ | refine Ze ?_ | refine Zd ?_ | refine W.drawT dr3 rfl mixed rfl ?_ | refine Zn ?_ | refine Zc ?_ | refine UnK.mk (fun b hb => ?_)); conv => whnf) | (refine Zb (fun h => ?_) (fun h => ?_) <;> first | exact Zx | (conv => whnf))))
    all_goals (try dsimp only [Int.toNat_natCast] at *)
    (repeat' (first | refine Zs ?_ | refine Zk ?_ | ((first | refine Za ?_ | refine Zr ?_ | refine Zp ?_ | refine Ze ?_ | refine Zd ?_ | refine W.drawT dr3 rfl mixed rfl ?_ | refine Zn ?_ | refine Zc ?_ | refine UnK.mk (fun b hb => ?_)); conv => whnf) | (refine Zb (fun h => ?_) (fun h => ?_) <;> first | exact Zx | (conv => whnf))))
    all_goals first | (exfalso; omega) | skip
    all_goals (refine ⟨k + 1, by omega, by omega, ?_, ?_, ?_, ?_⟩)
    all_goals (try rw [hm2, eM])
    all_goals (repeat' (first | exact trivial | exact AVle.refl _ | exact AVle.bo rfl rfl (by simp_all) | exact ⟨_, rfl, EntLe.refl _, rfl⟩ | refine And.intro ?_ ?_))
  · obtain rfl : k = ins.length := by omega
    rw [hmo]
    (repeat' (first | refine Zs ?_ | refine Zk ?_ | ((first | refine Za ?_ | refine Zr ?_ | refine Zp ?_ | refine Ze ?_ | refine Zd ?_ | refine W.drawT dr3 rfl mixed rfl ?_ | refine Zn ?_ | refine Zc ?_ | refine UnK.mk (fun b hb => ?_) | refine Zy yawake_t ?_ | refine Zz yawake_t ?_); conv => whnf) | (refine Zb (fun h => ?_) (fun h => ?_) <;> first | exact Zx | (conv => whnf))))
    all_goals first | (exfalso; omega) | ((repeat' (first | exact trivial | exact Zm | exact Zl | exact ResLe.row0 rfl | exact Zi (by first | rfl | omega) | exact Zo (h := by first | rfl | omega) | exact ResLe.bo rfl rfl Iff.rfl | refine ResLe.agg ?_ | refine And.intro ?_ ?_ | ((conv => whnf); first | exact Zl | exact ResLe.row0 rfl | exact Zi (by first | rfl | omega) | exact Zo (h := by first | rfl | omega) | exact ResLe.bo rfl rfl Iff.rfl | refine ResLe.agg ?_ | refine And.intro ?_ ?_))); done)
end Go.Proofs.Ytoeghejbgibioaa
