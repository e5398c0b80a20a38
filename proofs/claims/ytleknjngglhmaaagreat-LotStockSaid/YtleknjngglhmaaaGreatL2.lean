/- The law of stocks. -/
import Derived.Test.YtleknjngglhmaaaGreatCZ
import Derived.Test.YtleknjngglhmaaaGreatB10
import Derived.Test.YtleknjngglhmaaaGreatB13
namespace Go.Proofs.YtleknjngglhmaaaGreat
open Go Go.RowKit
set_option linter.unusedVariables false
set_option linter.unusedSimpArgs false
set_option maxRecDepth 100000
set_option maxHeartbeats 4000000
attribute [local irreducible] ResLe AVle ArgLe ArgP EntLe Dle ResH ArgQ


def nSl (ss : List Lt) (k : Nat) : Nat := ((ss.take k).map fun x => x.us.length).sum
theorem nSl_succ (ss : List Lt) (k : Nat) (h : k < ss.length) : nSl ss (k + 1) = nSl ss k + (ss.getD k default).us.length := by
  unfold nSl
  rw [take_snoc ss k h, List.map_append, List.sum_append]
  simp
def lightP (ss : List Lt) : Prop := ∀ i, i < ss.length → i < 80 ∧ nSl ss (i + 1) ≤ 300
noncomputable instance (ss : List Lt) : Decidable (lightP ss) := Classical.propDecidable _
theorem light_len {ss : List Lt} (h : lightP ss) : ss.length ≤ 80 ∧ ∀ x ∈ ss, x.us.length ≤ 300 := by
  constructor
  · rcases Nat.lt_or_ge 80 ss.length with h1 | h1
    · have := (h 80 h1).1; omega
    · exact h1
  · intro x hx
    obtain ⟨i, hi, rfl⟩ := List.getElem_of_mem hx
    have h1 := (h i hi).2
    rw [nSl_succ ss i hi, getD_of hi] at h1
    omega
theorem lightS_t (ss : List Lt) (hL : ss.length ≤ 4611686018427387904) (hU : ∀ x ∈ ss, x.us.length ≤ 4611686018427387904) : ACalls XX 18 [.dat (ltD ss)] (bA (decide (lightP ss))) := by
  refine ACalls.of (n := Tryz.f18.ntmps) XX_ok Tryz.func18 rfl (by kernel_rfl) rfl rfl (Nat.le_of_ble_eq_true rfl) ?_
  (repeat' (first | refine Zs ?_ | refine Zk ?_ | ((first | refine Za ?_ | refine Zr ?_ | refine Zp ?_ | refine Ze ?_ | refine Zd ?_ | refine Zn ?_ | refine Zc ?_ | refine UnK.mk (fun b hb => ?_)); conv => whnf) | (refine Zb (fun h => ?_) (fun h => ?_) <;> first | exact Zx | (conv => whnf))))
  refine (W.loopK (ι := Nat) [0] [] (fun k => [(4, iA k), (3, iA (nSl ss k))]) (fun _ => []) (fun k => k ≤ ss.length ∧ nSl ss k ≤ 300 ∧ ∀ i, i < k → i < 80 ∧ nSl ss (i + 1) ≤ 300) (fun k => ss.length - k) 0 ⟨Nat.zero_le _, by simp [nSl], fun i hi => absurd hi (by omega)⟩ ?_ ?_ ?_)
  · (repeat' (first | exact trivial | exact Yr | exact Yi (by first | rfl | (simp [nSl]; done) | omega) | exact Yo (by first | rfl | (simp [nSl]; done) | omega) | exact Yd | exact Yn | exact Ye (by first | rfl | (simp [nSl]; done) | omega) | exact ⟨_, rfl, Yf, rfl⟩ | refine ⟨_, rfl, Yb ?_, rfl⟩ | refine ⟨_, rfl, Yw (by first | rfl | (simp [nSl]; done) | omega) ?_, rfl⟩ | refine And.intro ?_ ?_))
  · exact Yz
  conv => whnf
  intro k ⟨hk, hn, hz⟩
  by_cases hk' : k < ss.length
  · have hs := nSl_succ ss k hk'
    have hu := hU _ (getD_in hk')
    by_cases hok : k < 80 ∧ nSl ss (k + 1) ≤ 300
    · (repeat' (first | refine Zs ?_ | refine Zk ?_ | ((first | refine Za ?_ | refine Zr ?_ | refine Zp ?_ | refine Ze ?_ | refine Zd ?_ | refine Zn ?_ | refine Zc ?_ | refine UnK.mk (fun b hb => ?_)); conv => whnf) | (refine Zb (fun h => ?_) (fun h => ?_) <;> first | exact Zx | (conv => whnf))))
      all_goals (try dsimp only [Int.toNat_natCast] at *)
      (repeat' (first | refine Zs ?_ | refine Zk ?_ | ((first | refine Za ?_ | refine Zr ?_ | refine Zp ?_ | refine Ze ?_ | refine Zd ?_ | refine Zn ?_ | refine Zc ?_ | refine UnK.mk (fun b hb => ?_)); conv => whnf) | (refine Zb (fun h => ?_) (fun h => ?_) <;> first | exact Zx | (conv => whnf))))
      all_goals first | (exfalso; omega) | skip
      refine ⟨k + 1, ⟨by omega, hok.2, fun i hi => ?_⟩, by omega, ?_, ?_, ?_, ?_⟩
      · by_cases hik : i = k
        · subst hik; exact hok
        · exact hz i (by omega)
      all_goals exact Yz
    · have hn : ¬ lightP ss := fun h => hok (h k hk')
      (repeat' (first | refine Zs ?_ | refine Zk ?_ | ((first | refine Za ?_ | refine Zr ?_ | refine Zp ?_ | refine Ze ?_ | refine Zd ?_ | refine Zn ?_ | refine Zc ?_ | refine UnK.mk (fun b hb => ?_)); conv => whnf) | (refine Zb (fun h => ?_) (fun h => ?_) <;> first | exact Zx | (conv => whnf))))
      all_goals (try dsimp only [Int.toNat_natCast] at *)
      (repeat' (first | refine Zs ?_ | refine Zk ?_ | ((first | refine Za ?_ | refine Zr ?_ | refine Zp ?_ | refine Ze ?_ | refine Zd ?_ | refine Zn ?_ | refine Zc ?_ | refine UnK.mk (fun b hb => ?_)); conv => whnf) | (refine Zb (fun h => ?_) (fun h => ?_) <;> first | exact Zx | (conv => whnf))))
      all_goals first | ((repeat' (first | exact trivial | exact Zm | exact Zl | exact ResLe.row0 rfl | exact Zi (by exact hn) | exact Zo (h := by exact hn) | exact ResLe.bo rfl rfl Iff.rfl | refine ResLe.agg ?_ | refine And.intro ?_ ?_ | ((conv => whnf); first | exact Zl | exact ResLe.row0 rfl | exact Zi (by exact hn) | exact Zo (h := by exact hn) | exact ResLe.bo rfl rfl Iff.rfl | refine ResLe.agg ?_ | refine And.intro ?_ ?_))); done) | (exfalso; omega)
  · have hn : lightP ss := fun i hi => hz i (by omega)
    (repeat' (first | refine Zs ?_ | refine Zk ?_ | ((first | refine Za ?_ | refine Zr ?_ | refine Zp ?_ | refine Ze ?_ | refine Zd ?_ | refine Zn ?_ | refine Zc ?_ | refine UnK.mk (fun b hb => ?_)); conv => whnf) | (refine Zb (fun h => ?_) (fun h => ?_) <;> first | exact Zx | (conv => whnf))))
    all_goals (repeat' (first | exact trivial | exact Zm | exact Zl | exact ResLe.row0 rfl | exact Zi (by exact hn) | exact Zo (h := by exact hn) | exact ResLe.bo rfl rfl Iff.rfl | refine ResLe.agg ?_ | refine And.intro ?_ ?_ | ((conv => whnf); first | exact Zl | exact ResLe.row0 rfl | exact Zi (by exact hn) | exact Zo (h := by exact hn) | exact ResLe.bo rfl rfl Iff.rfl | refine ResLe.agg ?_ | refine And.intro ?_ ?_)))
theorem rcovers_t (ss : List Lt) (src u : Int) (hL : ss.length ≤ 9223372036854775807) (hC : ∀ x ∈ ss, x.c.size ≤ 9223372036854775807) : ACalls XX 25 [.dat (ltD ss), iA src, iA u] (bA (decide (qOk u ∧ stkErr ss = 0 ∧ covP ss src u))) := by
  have h2 := rstock_t ss hL hC
  by_cases hs : stkErr ss = 0
  rotate_left
  · refine ACalls.of (n := Tryz.f25.ntmps) XX_ok Tryz.func25 rfl (by kernel_rfl) rfl rfl (Nat.le_of_ble_eq_true rfl) ?_
    (repeat' (first | refine Zs ?_ | refine Zk ?_ | ((first | refine Za ?_ | refine Zr ?_ | refine Zp ?_ | refine Ze ?_ | refine Zd ?_ | refine Zn ?_ | refine Zc ?_ | refine UnK.mk (fun b hb => ?_) | refine Zy h2 ?_); conv => whnf) | (refine Zb (fun h => ?_) (fun h => ?_) <;> first | exact Zx | (conv => whnf))))
    all_goals first | (exfalso; omega) | (repeat' (first | exact trivial | exact Zm | exact Zl | exact ResLe.row0 rfl | exact Zi (by simp [hs]) | exact Zo (h := by simp [hs]) | exact ResLe.bo rfl rfl Iff.rfl | refine ResLe.agg ?_ | refine And.intro ?_ ?_ | ((conv => whnf); first | exact Zl | exact ResLe.row0 rfl | exact Zi (by simp [hs]) | exact Zo (h := by simp [hs]) | exact ResLe.bo rfl rfl Iff.rfl | refine ResLe.agg ?_ | refine And.intro ?_ ?_)))
  by_cases hq : qOk u
  rotate_left
  · have hq' := hq
    unfold qOk at hq'
    refine ACalls.of (n := Tryz.f25.ntmps) XX_ok Tryz.func25 rfl (by kernel_rfl) rfl rfl (Nat.le_of_ble_eq_true rfl) ?_
    (repeat' (first | refine Zs ?_ | refine Zk ?_ | ((first | refine Za ?_ | refine Zr ?_ | refine Zp ?_ | refine Ze ?_ | refine Zd ?_ | refine Zn ?_ | refine Zc ?_ | refine UnK.mk (fun b hb => ?_) | refine Zy h2 ?_); conv => whnf) | (refine Zb (fun h => ?_) (fun h => ?_) <;> first | exact Zx | (conv => whnf))))
    all_goals first | (exfalso; omega) | (repeat' (first | exact trivial | exact Zm | exact Zl | exact ResLe.row0 rfl | exact Zi (by simp [hq]) | exact Zo (h := by simp [hq]) | exact ResLe.bo rfl rfl Iff.rfl | refine ResLe.agg ?_ | refine And.intro ?_ ?_ | ((conv => whnf); first | exact Zl | exact ResLe.row0 rfl | exact Zi (by simp [hq]) | exact Zo (h := by simp [hq]) | exact ResLe.bo rfl rfl Iff.rfl | refine ResLe.agg ?_ | refine And.intro ?_ ?_)))
  have hO := stkErr_ok hs
  have hlen := hO.len
  have hcnt : ∀ k, 0 ≤ cnt (covL (ss.take k) src) ∧ cnt (covL (ss.take k) src) ≤ 1000000000 * 4096 := fun k => by
    have hU : ∀ l ∈ here (ss.take k), l.length ≤ 64 := fun l hl => by
      unfold here at hl
      obtain ⟨x, hx, rfl⟩ := List.mem_map.1 hl
      exact hO.us x (List.mem_of_mem_take (List.mem_filter.1 hx).1)
    have hf := flat_len hU
    have hh := here_len (ss.take k)
    have ht : (ss.take k).length ≤ ss.length := List.length_take_le' ..
    have hv : ∀ y ∈ covL (ss.take k) src, slOk y := fun y hy => by
      obtain ⟨hy1, _⟩ := List.mem_filter.1 hy
      obtain ⟨l, hl, hyl⟩ := List.mem_flatten.1 hy1
      unfold here at hl
      obtain ⟨x, hx, rfl⟩ := List.mem_map.1 hl
      exact (hO.ok x (List.mem_of_mem_take (List.mem_filter.1 hx).1)).2.2.2.2 y hyl
    have hcl : (covL (ss.take k) src).length ≤ (here (ss.take k)).flatten.length := List.length_filter_le ..
    have c1 := cnt_nonneg (slOk_le hv)
    have c2 := cnt_le hv
    omega
  have hq' := hq
  unfold qOk at hq'
  rw [hs] at h2
  refine ACalls.of (n := Tryz.f25.ntmps) XX_ok Tryz.func25 rfl (by kernel_rfl) rfl rfl (Nat.le_of_ble_eq_true rfl) ?_
  (repeat' (first | refine Zs ?_ | refine Zk ?_ | ((first | refine Za ?_ | refine Zr ?_ | refine Zp ?_ | refine Ze ?_ | refine Zd ?_ | refine Zn ?_ | refine Zc ?_ | refine UnK.mk (fun b hb => ?_) | refine Zy h2 ?_); conv => whnf) | (refine Zb (fun h => ?_) (fun h => ?_) <;> first | exact Zx | (conv => whnf))))
  all_goals first | (exfalso; omega) | skip
  refine (W.loopK (ι := Nat) [0, 1, 2] [] (fun k => [(8, iA k), (7, iA (cnt (covL (ss.take k) src)))]) (fun _ => []) (fun k => k ≤ ss.length ∧ ∀ s ∈ covL (ss.take k) src, s.e ≤ u) (fun k => ss.length - k) 0 ⟨Nat.zero_le _, by simp [covL, here, ofS]⟩ ?_ ?_ ?_)
  · (repeat' (first | exact trivial | exact Yr | exact Yi (by first | rfl | (simp [covL, here, ofS, cnt]; done) | omega) | exact Yo (by first | rfl | (simp [covL, here, ofS, cnt]; done) | omega) | exact Yd | exact Yn | exact Ye (by first | rfl | (simp [covL, here, ofS, cnt]; done) | omega) | exact ⟨_, rfl, Yf, rfl⟩ | refine ⟨_, rfl, Yb ?_, rfl⟩ | refine ⟨_, rfl, Yw (by first | rfl | (simp [covL, here, ofS, cnt]; done) | omega) ?_, rfl⟩ | refine And.intro ?_ ?_))
  · exact Yz
  conv => whnf
  intro k ⟨hk, hz⟩
  have hck := hcnt k
  by_cases hk' : k < ss.length
  · have hsn := cov_snoc ss src k hk'
    have hck1 := hcnt (k + 1)
    have hxs := (hO.ok _ (getD_in hk')).2.2.2.2
    have hxl := hO.us _ (getD_in hk')
    (repeat' (first | refine Zs ?_ | refine Zk ?_ | ((first | refine Za ?_ | refine Zr ?_ | refine Zp ?_ | refine Ze ?_ | refine Zd ?_ | refine Zn ?_ | refine Zc ?_ | refine UnK.mk (fun b hb => ?_)); conv => whnf) | (refine Zb (fun h => ?_) (fun h => ?_) <;> first | exact Zx | (conv => whnf))))
    all_goals (try dsimp only [Int.toNat_natCast] at *)
    by_cases hp : (ss.getD k default).p = 13
    · rw [if_pos hp] at hsn
      refine (W.loopK (ι := Unit) [0, 1, 2, 7, 8] [] (fun _ => [(9, iA (0 : Nat))]) (fun _ => []) (fun _ => True) (fun _ => 0) () trivial ?_ ?_ ?_)
      · exact Yz
      · exact Yz
      conv => whnf
      intro _ _
      (repeat' (first | refine Zs ?_ | refine Zk ?_ | ((first | refine Za ?_ | refine Zr ?_ | refine Zp ?_ | refine Ze ?_ | refine Zd ?_ | refine Zn ?_ | refine Zc ?_ | refine UnK.mk (fun b hb => ?_)); conv => whnf) | (refine Zb (fun h => ?_) (fun h => ?_) <;> first | exact Zx | (conv => whnf))))
      all_goals (try dsimp only [Int.toNat_natCast] at *)
      (repeat' (first | refine Zs ?_ | refine Zk ?_ | ((first | refine Za ?_ | refine Zr ?_ | refine Zp ?_ | refine Ze ?_ | refine Zd ?_ | refine Zn ?_ | refine Zc ?_ | refine UnK.mk (fun b hb => ?_)); conv => whnf) | (refine Zb (fun h => ?_) (fun h => ?_) <;> first | exact Zx | (conv => whnf))))
      all_goals first | (exfalso; omega) | skip
      all_goals (refine ⟨k + 1, ⟨by omega, by rw [hsn]; exact hz⟩, by omega, ?_, ?_, ?_, ?_⟩)
      all_goals (repeat' (first | exact trivial | exact Yr | exact Yi (by first | rfl | (rw [hsn]; done) | omega) | exact Yo (by first | rfl | (rw [hsn]; done) | omega) | exact Yd | exact Yn | exact Ye (by first | rfl | (rw [hsn]; done) | omega) | exact ⟨_, rfl, Yf, rfl⟩ | refine ⟨_, rfl, Yb ?_, rfl⟩ | refine ⟨_, rfl, Yw (by first | rfl | (rw [hsn]; done) | omega) ?_, rfl⟩ | refine And.intro ?_ ?_))
    · rw [if_neg hp] at hsn
      refine (W.loopK (ι := Nat) [0, 1, 2, 8] [] (fun i => [(9, iA i), (7, iA (cnt (covL (ss.take k) src) + cnt (ofS ((ss.getD k default).us.take i) src)))]) (fun _ => []) (fun i => i ≤ (ss.getD k default).us.length ∧ ∀ s ∈ ofS ((ss.getD k default).us.take i) src, s.e ≤ u) (fun i => (ss.getD k default).us.length - i) 0 ⟨Nat.zero_le _, by simp [ofS]⟩ ?_ ?_ ?_)
      · (repeat' (first | exact trivial | exact Yr | exact Yi (by first | rfl | (simp [ofS, cnt]; done) | omega) | exact Yo (by first | rfl | (simp [ofS, cnt]; done) | omega) | exact Yd | exact Yn | exact Ye (by first | rfl | (simp [ofS, cnt]; done) | omega) | exact ⟨_, rfl, Yf, rfl⟩ | refine ⟨_, rfl, Yb ?_, rfl⟩ | refine ⟨_, rfl, Yw (by first | rfl | (simp [ofS, cnt]; done) | omega) ?_, rfl⟩ | refine And.intro ?_ ?_))
      · exact Yz
      conv => whnf
      intro i ⟨hi, hy⟩
      have hvi : ∀ y ∈ ofS ((ss.getD k default).us.take i) src, slOk y := fun y hy => hxs y (List.mem_of_mem_take (List.mem_filter.1 hy).1)
      have ci1 := cnt_nonneg (slOk_le hvi)
      have ci2 := cnt_le hvi
      have ci3 : (ofS ((ss.getD k default).us.take i) src).length ≤ ((ss.getD k default).us.take i).length := List.length_filter_le ..
      have ci4 : ((ss.getD k default).us.take i).length ≤ (ss.getD k default).us.length := List.length_take_le' ..
      by_cases hi' : i < (ss.getD k default).us.length
      · have hx := hxs _ (getD_in hi')
        have hsi := ofS_snoc (ss.getD k default).us src i hi'
        unfold slOk at hx
        by_cases hm : ((ss.getD k default).us.getD i default).m = src
        · rw [if_pos hm] at hsi
          have hc1 : cnt (ofS ((ss.getD k default).us.take (i + 1)) src) = cnt (ofS ((ss.getD k default).us.take i) src) + (((ss.getD k default).us.getD i default).e - ((ss.getD k default).us.getD i default).s) := by
            rw [hsi, cnt_app, cnt_cons, cnt_nil]; unfold lenS; omega
          by_cases he : ((ss.getD k default).us.getD i default).e ≤ u
          · (repeat' (first | refine Zs ?_ | refine Zk ?_ | ((first | refine Za ?_ | refine Zr ?_ | refine Zp ?_ | refine Ze ?_ | refine Zd ?_ | refine Zn ?_ | refine Zc ?_ | refine UnK.mk (fun b hb => ?_)); conv => whnf) | (refine Zb (fun h => ?_) (fun h => ?_) <;> first | exact Zx | (conv => whnf))))
            all_goals (try dsimp only [Int.toNat_natCast] at *)
            (repeat' (first | refine Zs ?_ | refine Zk ?_ | ((first | refine Za ?_ | refine Zr ?_ | refine Zp ?_ | refine Ze ?_ | refine Zd ?_ | refine Zn ?_ | refine Zc ?_ | refine UnK.mk (fun b hb => ?_)); conv => whnf) | (refine Zb (fun h => ?_) (fun h => ?_) <;> first | exact Zx | (conv => whnf))))
            all_goals (try dsimp only [Int.toNat_natCast] at *)
            (repeat' (first | refine Zs ?_ | refine Zk ?_ | ((first | refine Za ?_ | refine Zr ?_ | refine Zp ?_ | refine Ze ?_ | refine Zd ?_ | refine Zn ?_ | refine Zc ?_ | refine UnK.mk (fun b hb => ?_)); conv => whnf) | (refine Zb (fun h => ?_) (fun h => ?_) <;> first | exact Zx | (conv => whnf))))
            all_goals first | (exfalso; omega) | skip
            refine ⟨i + 1, ⟨by omega, fun s hs => ?_⟩, by omega, ?_, ?_, ?_, ?_⟩
            · rw [hsi] at hs
              rcases List.mem_append.1 hs with hs | hs
              · exact hy s hs
              · rw [List.mem_singleton.1 hs]; exact he
            all_goals exact Yz
          · have hn : ¬ covP ss src u := fun hc => by
              have hmem : (ss.getD k default).us.getD i default ∈ covL (ss.take (k + 1)) src := by
                rw [hsn]
                refine List.mem_append_right _ ?_
                unfold ofS
                exact List.mem_filter.2 ⟨getD_in hi', decide_eq_true hm⟩
              have := hc.1 _ (cov_take ss src (k + 1) (by omega) _ hmem)
              omega
            (repeat' (first | refine Zs ?_ | refine Zk ?_ | ((first | refine Za ?_ | refine Zr ?_ | refine Zp ?_ | refine Ze ?_ | refine Zd ?_ | refine Zn ?_ | refine Zc ?_ | refine UnK.mk (fun b hb => ?_)); conv => whnf) | (refine Zb (fun h => ?_) (fun h => ?_) <;> first | exact Zx | (conv => whnf))))
            all_goals (try dsimp only [Int.toNat_natCast] at *)
            (repeat' (first | refine Zs ?_ | refine Zk ?_ | ((first | refine Za ?_ | refine Zr ?_ | refine Zp ?_ | refine Ze ?_ | refine Zd ?_ | refine Zn ?_ | refine Zc ?_ | refine UnK.mk (fun b hb => ?_)); conv => whnf) | (refine Zb (fun h => ?_) (fun h => ?_) <;> first | exact Zx | (conv => whnf))))
            all_goals (try dsimp only [Int.toNat_natCast] at *)
            (repeat' (first | refine Zs ?_ | refine Zk ?_ | ((first | refine Za ?_ | refine Zr ?_ | refine Zp ?_ | refine Ze ?_ | refine Zd ?_ | refine Zn ?_ | refine Zc ?_ | refine UnK.mk (fun b hb => ?_)); conv => whnf) | (refine Zb (fun h => ?_) (fun h => ?_) <;> first | exact Zx | (conv => whnf))))
            all_goals first | (exfalso; omega) | (repeat' (first | exact trivial | exact Zm | exact Zl | exact ResLe.row0 rfl | exact Zi (by simp [hn]) | exact Zo (h := by simp [hn]) | exact ResLe.bo rfl rfl Iff.rfl | refine ResLe.agg ?_ | refine And.intro ?_ ?_ | ((conv => whnf); first | exact Zl | exact ResLe.row0 rfl | exact Zi (by simp [hn]) | exact Zo (h := by simp [hn]) | exact ResLe.bo rfl rfl Iff.rfl | refine ResLe.agg ?_ | refine And.intro ?_ ?_)))
        · rw [if_neg hm] at hsi
          (repeat' (first | refine Zs ?_ | refine Zk ?_ | ((first | refine Za ?_ | refine Zr ?_ | refine Zp ?_ | refine Ze ?_ | refine Zd ?_ | refine Zn ?_ | refine Zc ?_ | refine UnK.mk (fun b hb => ?_)); conv => whnf) | (refine Zb (fun h => ?_) (fun h => ?_) <;> first | exact Zx | (conv => whnf))))
          all_goals (try dsimp only [Int.toNat_natCast] at *)
          (repeat' (first | refine Zs ?_ | refine Zk ?_ | ((first | refine Za ?_ | refine Zr ?_ | refine Zp ?_ | refine Ze ?_ | refine Zd ?_ | refine Zn ?_ | refine Zc ?_ | refine UnK.mk (fun b hb => ?_)); conv => whnf) | (refine Zb (fun h => ?_) (fun h => ?_) <;> first | exact Zx | (conv => whnf))))
          all_goals (try dsimp only [Int.toNat_natCast] at *)
          (repeat' (first | refine Zs ?_ | refine Zk ?_ | ((first | refine Za ?_ | refine Zr ?_ | refine Zp ?_ | refine Ze ?_ | refine Zd ?_ | refine Zn ?_ | refine Zc ?_ | refine UnK.mk (fun b hb => ?_)); conv => whnf) | (refine Zb (fun h => ?_) (fun h => ?_) <;> first | exact Zx | (conv => whnf))))
          all_goals first | (exfalso; omega) | skip
          refine ⟨i + 1, ⟨by omega, by rw [hsi]; exact hy⟩, by omega, ?_, ?_, ?_, ?_⟩
          all_goals (repeat' (first | exact trivial | exact Yr | exact Yi (by first | rfl | (rw [hsi]; done) | omega) | exact Yo (by first | rfl | (rw [hsi]; done) | omega) | exact Yd | exact Yn | exact Ye (by first | rfl | (rw [hsi]; done) | omega) | exact ⟨_, rfl, Yf, rfl⟩ | refine ⟨_, rfl, Yb ?_, rfl⟩ | refine ⟨_, rfl, Yw (by first | rfl | (rw [hsi]; done) | omega) ?_, rfl⟩ | refine And.intro ?_ ?_))
      · obtain rfl : i = (ss.getD k default).us.length := by omega
        rw [List.take_length] at *
        have hc1 : cnt (covL (ss.take (k + 1)) src) = cnt (covL (ss.take k) src) + cnt (ofS (ss.getD k default).us src) := by rw [hsn, cnt_app]
        (repeat' (first | refine Zs ?_ | refine Zk ?_ | ((first | refine Za ?_ | refine Zr ?_ | refine Zp ?_ | refine Ze ?_ | refine Zd ?_ | refine Zn ?_ | refine Zc ?_ | refine UnK.mk (fun b hb => ?_)); conv => whnf) | (refine Zb (fun h => ?_) (fun h => ?_) <;> first | exact Zx | (conv => whnf))))
        all_goals (try dsimp only [Int.toNat_natCast] at *)
        (repeat' (first | refine Zs ?_ | refine Zk ?_ | ((first | refine Za ?_ | refine Zr ?_ | refine Zp ?_ | refine Ze ?_ | refine Zd ?_ | refine Zn ?_ | refine Zc ?_ | refine UnK.mk (fun b hb => ?_)); conv => whnf) | (refine Zb (fun h => ?_) (fun h => ?_) <;> first | exact Zx | (conv => whnf))))
        all_goals first | (exfalso; omega) | skip
        refine ⟨k + 1, ⟨by omega, fun s hs => ?_⟩, by omega, ?_, ?_, ?_, ?_⟩
        · rw [hsn] at hs
          rcases List.mem_append.1 hs with hs | hs
          · exact hz s hs
          · exact hy s hs
        all_goals exact Yz
  · obtain rfl : k = ss.length := by omega
    rw [List.take_length] at *
    have e : (qOk u ∧ stkErr ss = 0 ∧ covP ss src u) ↔ cnt (covL ss src) = u := ⟨fun h => h.2.2.2, fun h => ⟨hq, hs, hz, h⟩⟩
    (repeat' (first | refine Zs ?_ | refine Zk ?_ | ((first | refine Za ?_ | refine Zr ?_ | refine Zp ?_ | refine Ze ?_ | refine Zd ?_ | refine Zn ?_ | refine Zc ?_ | refine UnK.mk (fun b hb => ?_)); conv => whnf) | (refine Zb (fun h => ?_) (fun h => ?_) <;> first | exact Zx | (conv => whnf))))
    all_goals (repeat' (first | exact trivial | exact Zm | exact Zl | exact ResLe.row0 rfl | exact Zi (by exact e.symm) | exact Zo (h := by exact e.symm) | exact ResLe.bo rfl rfl Iff.rfl | refine ResLe.agg ?_ | refine And.intro ?_ ?_ | ((conv => whnf); first | exact Zl | exact ResLe.row0 rfl | exact Zi (by exact e.symm) | exact Zo (h := by exact e.symm) | exact ResLe.bo rfl rfl Iff.rfl | refine ResLe.agg ?_ | refine And.intro ?_ ?_)))


theorem find_no {ss : List Lt} {id : Int} (h : ¬ hasI ss id) : findV ss id = noLt := by
  unfold findV
  rw [find_none fun i hi e => h ⟨_, getD_in hi, e⟩]
  rfl
theorem same_no : ACalls XX 21 [ltA noLt, .agg [iA 0, sA ByteArray.empty, iA 0, iA 0, .dat (.val (.slice none 0 0))]] (bA true) :=
  (rsameLot_t noLt (by simp [noLt])).args2 (AVle.refl _) (AVle.agg ⟨AVle.refl _, AVle.of_eq rfl, AVle.refl _, AVle.refl _, AVle.dat (Dle.nil _ _), trivial⟩)
theorem lawStock_t (x0 : List Int) (sr : List Lt) (a2 a3 : Int) (b4 : Bool) (k0 : x0.length ≤ 9223372036854775807) (k1 : sr.length ≤ 4611686018427387904) (k2 : ∀ x ∈ sr, x.c.size ≤ 4611686018427387904 ∧ x.us.length ≤ 4611686018427387904) : ACalls XX 4 [.dat (ilst x0), .dat (ltD sr), iA a2, iA a3, bA b4] (bA true) := by
  have hQ := l25awake_t
  cases b4 with
  | true =>
    have hx2 := k2
    have d0 := lightS_t sr (by omega) (fun x hx => by have := hx2 x hx; omega)
    have hC : ∀ x ∈ sr, x.c.size ≤ 9223372036854775807 := fun x hx => by have := hx2 x hx; omega
    by_cases hl : lightP sr
    · obtain ⟨l1, l2⟩ := light_len hl
      rw [decide_eq_true hl] at d0
      have d1 := find_t sr a2 (by omega) (fun x hx => by have := l2 x hx; omega)
      have d2 := rat_t sr a2 (by omega)
      have d3 := validate_t sr (by omega)
      have d4 := rstock_t sr (by omega) hC
      have d5 := covers_t sr a2 a3 (by omega)
      have d6 := rcovers_t sr a2 a3 (by omega) hC
      by_cases hh : hasI sr a2
      · obtain ⟨z0, q1, q2, q3, q4, q5⟩ := findI_ex hh
        rw [decide_eq_true hh, ← q5] at d1
        rw [at_has hh, q2] at d2
        have d7 := rsameLot_t (sr.getD z0 default) (by have := l2 _ (getD_in q1); omega)
        refine ACalls.of (n := Tryz.f4.ntmps) XX_ok Tryz.func4 rfl (by kernel_rfl) rfl rfl (Nat.le_of_ble_eq_true rfl) ?_
        (repeat' (first | refine Zs ?_ | refine Zk ?_ | ((first | refine Za ?_ | refine Zr ?_ | refine Zp ?_ | refine Ze ?_ | refine Zd ?_ | refine W.drawT dr4 rfl mixed rfl ?_ | refine Zn ?_ | refine Zc ?_ | refine UnK.mk (fun b hb => ?_) | refine Zy kM ?_ | refine Zz kM ?_ | refine Zy w1 ?_ | refine Zz w1 ?_ | refine Zy w2 ?_ | refine Zz w2 ?_ | refine Zy w3 ?_ | refine Zz w3 ?_ | refine Zy d0 ?_ | refine Zz d0 ?_ | refine Zy d1 ?_ | refine Zz d1 ?_ | refine Zy d2 ?_ | refine Zz d2 ?_ | refine Zy d3 ?_ | refine Zz d3 ?_ | refine Zy d4 ?_ | refine Zz d4 ?_ | refine Zy d5 ?_ | refine Zz d5 ?_ | refine Zy d6 ?_ | refine Zz d6 ?_ | refine Zy d7 ?_ | refine Zz d7 ?_ | refine Zy hQ ?_ | refine Zz hQ ?_); conv => whnf) | (refine Zb (fun h => ?_) (fun h => ?_) <;> first | exact Zx | (conv => whnf))))
        all_goals first | exact Zrz | (exfalso; omega) | (exfalso; simp_all; done)
      · rw [decide_eq_false hh, find_no hh] at d1
        rw [at_no hh] at d2
        have d7 := same_no
        refine ACalls.of (n := Tryz.f4.ntmps) XX_ok Tryz.func4 rfl (by kernel_rfl) rfl rfl (Nat.le_of_ble_eq_true rfl) ?_
        (repeat' (first | refine Zs ?_ | refine Zk ?_ | ((first | refine Za ?_ | refine Zr ?_ | refine Zp ?_ | refine Ze ?_ | refine Zd ?_ | refine W.drawT dr4 rfl mixed rfl ?_ | refine Zn ?_ | refine Zc ?_ | refine UnK.mk (fun b hb => ?_) | refine Zy kM ?_ | refine Zz kM ?_ | refine Zy w1 ?_ | refine Zz w1 ?_ | refine Zy w2 ?_ | refine Zz w2 ?_ | refine Zy w3 ?_ | refine Zz w3 ?_ | refine Zy d0 ?_ | refine Zz d0 ?_ | refine Zy d1 ?_ | refine Zz d1 ?_ | refine Zy d2 ?_ | refine Zz d2 ?_ | refine Zy d3 ?_ | refine Zz d3 ?_ | refine Zy d4 ?_ | refine Zz d4 ?_ | refine Zy d5 ?_ | refine Zz d5 ?_ | refine Zy d6 ?_ | refine Zz d6 ?_ | refine Zy d7 ?_ | refine Zz d7 ?_ | refine Zy hQ ?_ | refine Zz hQ ?_); conv => whnf) | (refine Zb (fun h => ?_) (fun h => ?_) <;> first | exact Zx | (conv => whnf))))
        all_goals first | exact Zrz | (exfalso; omega) | (exfalso; simp_all; done)
    · rw [decide_eq_false hl] at d0
      refine ACalls.of (n := Tryz.f4.ntmps) XX_ok Tryz.func4 rfl (by kernel_rfl) rfl rfl (Nat.le_of_ble_eq_true rfl) ?_
      (repeat' (first | refine Zs ?_ | refine Zk ?_ | ((first | refine Za ?_ | refine Zr ?_ | refine Zp ?_ | refine Ze ?_ | refine Zd ?_ | refine W.drawT dr4 rfl mixed rfl ?_ | refine Zn ?_ | refine Zc ?_ | refine UnK.mk (fun b hb => ?_) | refine Zy kM ?_ | refine Zz kM ?_ | refine Zy w1 ?_ | refine Zz w1 ?_ | refine Zy w2 ?_ | refine Zz w2 ?_ | refine Zy w3 ?_ | refine Zz w3 ?_ | refine Zy d0 ?_ | refine Zz d0 ?_ | refine Zy hQ ?_ | refine Zz hQ ?_); conv => whnf) | (refine Zb (fun h => ?_) (fun h => ?_) <;> first | exact Zx | (conv => whnf))))
      all_goals first | exact Zrz | (exfalso; omega)
  | false =>
    obtain ⟨n, ss, cs, f, hn, hA, kM⟩ := make_ex x0 k0
    obtain ⟨hE, hf, hcl⟩ := acts_est hA
    have hf1 := hE.f
    have hlen := hE.stk.len
    have hx2 : ∀ x ∈ ss, x.c.size ≤ 4611686018427387904 ∧ x.us.length ≤ 4611686018427387904 := fun x hx => by
      have h1 := (hE.stk.ok x hx).2.1.1
      have h2 := hE.stk.us x hx
      omega
    have w1 := within_t a2 (f + 1) (by omega) (by omega)
    by_cases hc0 : cs.length = 0
    · have d0 := lightS_t ss (by omega) (fun x hx => by have := hx2 x hx; omega)
      have hC : ∀ x ∈ ss, x.c.size ≤ 9223372036854775807 := fun x hx => by have := hx2 x hx; omega
      by_cases hl : lightP ss
      · obtain ⟨l1, l2⟩ := light_len hl
        rw [decide_eq_true hl] at d0
        have d1 := find_t ss (a2 % (f + 1)) (by omega) (fun x hx => by have := l2 x hx; omega)
        have d2 := rat_t ss (a2 % (f + 1)) (by omega)
        have d3 := validate_t ss (by omega)
        have d4 := rstock_t ss (by omega) hC
        have d5 := covers_t ss (a2 % (f + 1)) a3 (by omega)
        have d6 := rcovers_t ss (a2 % (f + 1)) a3 (by omega) hC
        by_cases hh : hasI ss (a2 % (f + 1))
        · obtain ⟨z0, q1, q2, q3, q4, q5⟩ := findI_ex hh
          rw [decide_eq_true hh, ← q5] at d1
          rw [at_has hh, q2] at d2
          have d7 := rsameLot_t (ss.getD z0 default) (by have := l2 _ (getD_in q1); omega)
          refine ACalls.of (n := Tryz.f4.ntmps) XX_ok Tryz.func4 rfl (by kernel_rfl) rfl rfl (Nat.le_of_ble_eq_true rfl) ?_
          (repeat' (first | refine Zs ?_ | refine Zk ?_ | ((first | refine Za ?_ | refine Zr ?_ | refine Zp ?_ | refine Ze ?_ | refine Zd ?_ | refine W.drawT dr4 rfl mixed rfl ?_ | refine Zn ?_ | refine Zc ?_ | refine UnK.mk (fun b hb => ?_) | refine Zy kM ?_ | refine Zz kM ?_ | refine Zy w1 ?_ | refine Zz w1 ?_ | refine Zy w2 ?_ | refine Zz w2 ?_ | refine Zy w3 ?_ | refine Zz w3 ?_ | refine Zy d0 ?_ | refine Zz d0 ?_ | refine Zy d1 ?_ | refine Zz d1 ?_ | refine Zy d2 ?_ | refine Zz d2 ?_ | refine Zy d3 ?_ | refine Zz d3 ?_ | refine Zy d4 ?_ | refine Zz d4 ?_ | refine Zy d5 ?_ | refine Zz d5 ?_ | refine Zy d6 ?_ | refine Zz d6 ?_ | refine Zy d7 ?_ | refine Zz d7 ?_ | refine Zy hQ ?_ | refine Zz hQ ?_); conv => whnf) | (refine Zb (fun h => ?_) (fun h => ?_) <;> first | exact Zx | (conv => whnf))))
          all_goals first | exact Zrz | (exfalso; omega) | (exfalso; simp_all; done)
        · rw [decide_eq_false hh, find_no hh] at d1
          rw [at_no hh] at d2
          have d7 := same_no
          refine ACalls.of (n := Tryz.f4.ntmps) XX_ok Tryz.func4 rfl (by kernel_rfl) rfl rfl (Nat.le_of_ble_eq_true rfl) ?_
          (repeat' (first | refine Zs ?_ | refine Zk ?_ | ((first | refine Za ?_ | refine Zr ?_ | refine Zp ?_ | refine Ze ?_ | refine Zd ?_ | refine W.drawT dr4 rfl mixed rfl ?_ | refine Zn ?_ | refine Zc ?_ | refine UnK.mk (fun b hb => ?_) | refine Zy kM ?_ | refine Zz kM ?_ | refine Zy w1 ?_ | refine Zz w1 ?_ | refine Zy w2 ?_ | refine Zz w2 ?_ | refine Zy w3 ?_ | refine Zz w3 ?_ | refine Zy d0 ?_ | refine Zz d0 ?_ | refine Zy d1 ?_ | refine Zz d1 ?_ | refine Zy d2 ?_ | refine Zz d2 ?_ | refine Zy d3 ?_ | refine Zz d3 ?_ | refine Zy d4 ?_ | refine Zz d4 ?_ | refine Zy d5 ?_ | refine Zz d5 ?_ | refine Zy d6 ?_ | refine Zz d6 ?_ | refine Zy d7 ?_ | refine Zz d7 ?_ | refine Zy hQ ?_ | refine Zz hQ ?_); conv => whnf) | (refine Zb (fun h => ?_) (fun h => ?_) <;> first | exact Zx | (conv => whnf))))
          all_goals first | exact Zrz | (exfalso; omega) | (exfalso; simp_all; done)
      · rw [decide_eq_false hl] at d0
        refine ACalls.of (n := Tryz.f4.ntmps) XX_ok Tryz.func4 rfl (by kernel_rfl) rfl rfl (Nat.le_of_ble_eq_true rfl) ?_
        (repeat' (first | refine Zs ?_ | refine Zk ?_ | ((first | refine Za ?_ | refine Zr ?_ | refine Zp ?_ | refine Ze ?_ | refine Zd ?_ | refine W.drawT dr4 rfl mixed rfl ?_ | refine Zn ?_ | refine Zc ?_ | refine UnK.mk (fun b hb => ?_) | refine Zy kM ?_ | refine Zz kM ?_ | refine Zy w1 ?_ | refine Zz w1 ?_ | refine Zy w2 ?_ | refine Zz w2 ?_ | refine Zy w3 ?_ | refine Zz w3 ?_ | refine Zy d0 ?_ | refine Zz d0 ?_ | refine Zy hQ ?_ | refine Zz hQ ?_); conv => whnf) | (refine Zb (fun h => ?_) (fun h => ?_) <;> first | exact Zx | (conv => whnf))))
        all_goals first | exact Zrz | (exfalso; omega)
    · have w2 := within_t a3 cs.length (by omega) (by omega)
      have w3 := within_t a3 5 (by omega) (by omega)
      have r2 := Int.emod_nonneg a3 (show (cs.length : Int) ≠ 0 by omega)
      have r2' := Int.emod_lt_of_pos a3 (show (0 : Int) < cs.length by omega)
      have r3 := Int.emod_nonneg a3 (show (5 : Int) ≠ 0 by omega)
      have r3' := Int.emod_lt_of_pos a3 (show (0 : Int) < 5 by omega)
      have hcr := hE.chr _ (getD_in (show (a3 % cs.length).toNat < cs.length by omega))
      have d0 := lightS_t ss (by omega) (fun x hx => by have := hx2 x hx; omega)
      have hC : ∀ x ∈ ss, x.c.size ≤ 9223372036854775807 := fun x hx => by have := hx2 x hx; omega
      by_cases hl : lightP ss
      · obtain ⟨l1, l2⟩ := light_len hl
        rw [decide_eq_true hl] at d0
        have d1 := find_t ss (cs.getD (a3 % cs.length).toNat default).m (by omega) (fun x hx => by have := l2 x hx; omega)
        have d2 := rat_t ss (cs.getD (a3 % cs.length).toNat default).m (by omega)
        have d3 := validate_t ss (by omega)
        have d4 := rstock_t ss (by omega) hC
        have d5 := covers_t ss (cs.getD (a3 % cs.length).toNat default).m ((cs.getD (a3 % cs.length).toNat default).u + a3 % 5 / 4) (by omega)
        have d6 := rcovers_t ss (cs.getD (a3 % cs.length).toNat default).m ((cs.getD (a3 % cs.length).toNat default).u + a3 % 5 / 4) (by omega) hC
        by_cases hh : hasI ss (cs.getD (a3 % cs.length).toNat default).m
        · obtain ⟨z0, q1, q2, q3, q4, q5⟩ := findI_ex hh
          rw [decide_eq_true hh, ← q5] at d1
          rw [at_has hh, q2] at d2
          have d7 := rsameLot_t (ss.getD z0 default) (by have := l2 _ (getD_in q1); omega)
          refine ACalls.of (n := Tryz.f4.ntmps) XX_ok Tryz.func4 rfl (by kernel_rfl) rfl rfl (Nat.le_of_ble_eq_true rfl) ?_
          (repeat' (first | refine Zs ?_ | refine Zk ?_ | ((first | refine Za ?_ | refine Zr ?_ | refine Zp ?_ | refine Ze ?_ | refine Zd ?_ | refine W.drawT dr4 rfl mixed rfl ?_ | refine Zn ?_ | refine Zc ?_ | refine UnK.mk (fun b hb => ?_) | refine Zy kM ?_ | refine Zz kM ?_ | refine Zy w1 ?_ | refine Zz w1 ?_ | refine Zy w2 ?_ | refine Zz w2 ?_ | refine Zy w3 ?_ | refine Zz w3 ?_ | refine Zy d0 ?_ | refine Zz d0 ?_ | refine Zy d1 ?_ | refine Zz d1 ?_ | refine Zy d2 ?_ | refine Zz d2 ?_ | refine Zy d3 ?_ | refine Zz d3 ?_ | refine Zy d4 ?_ | refine Zz d4 ?_ | refine Zy d5 ?_ | refine Zz d5 ?_ | refine Zy d6 ?_ | refine Zz d6 ?_ | refine Zy d7 ?_ | refine Zz d7 ?_ | refine Zy hQ ?_ | refine Zz hQ ?_); conv => whnf) | (refine Zb (fun h => ?_) (fun h => ?_) <;> first | exact Zx | (conv => whnf))))
          all_goals first | exact Zrz | (exfalso; omega) | (exfalso; simp_all; done)
        · rw [decide_eq_false hh, find_no hh] at d1
          rw [at_no hh] at d2
          have d7 := same_no
          refine ACalls.of (n := Tryz.f4.ntmps) XX_ok Tryz.func4 rfl (by kernel_rfl) rfl rfl (Nat.le_of_ble_eq_true rfl) ?_
          (repeat' (first | refine Zs ?_ | refine Zk ?_ | ((first | refine Za ?_ | refine Zr ?_ | refine Zp ?_ | refine Ze ?_ | refine Zd ?_ | refine W.drawT dr4 rfl mixed rfl ?_ | refine Zn ?_ | refine Zc ?_ | refine UnK.mk (fun b hb => ?_) | refine Zy kM ?_ | refine Zz kM ?_ | refine Zy w1 ?_ | refine Zz w1 ?_ | refine Zy w2 ?_ | refine Zz w2 ?_ | refine Zy w3 ?_ | refine Zz w3 ?_ | refine Zy d0 ?_ | refine Zz d0 ?_ | refine Zy d1 ?_ | refine Zz d1 ?_ | refine Zy d2 ?_ | refine Zz d2 ?_ | refine Zy d3 ?_ | refine Zz d3 ?_ | refine Zy d4 ?_ | refine Zz d4 ?_ | refine Zy d5 ?_ | refine Zz d5 ?_ | refine Zy d6 ?_ | refine Zz d6 ?_ | refine Zy d7 ?_ | refine Zz d7 ?_ | refine Zy hQ ?_ | refine Zz hQ ?_); conv => whnf) | (refine Zb (fun h => ?_) (fun h => ?_) <;> first | exact Zx | (conv => whnf))))
          all_goals first | exact Zrz | (exfalso; omega) | (exfalso; simp_all; done)
      · rw [decide_eq_false hl] at d0
        refine ACalls.of (n := Tryz.f4.ntmps) XX_ok Tryz.func4 rfl (by kernel_rfl) rfl rfl (Nat.le_of_ble_eq_true rfl) ?_
        (repeat' (first | refine Zs ?_ | refine Zk ?_ | ((first | refine Za ?_ | refine Zr ?_ | refine Zp ?_ | refine Ze ?_ | refine Zd ?_ | refine W.drawT dr4 rfl mixed rfl ?_ | refine Zn ?_ | refine Zc ?_ | refine UnK.mk (fun b hb => ?_) | refine Zy kM ?_ | refine Zz kM ?_ | refine Zy w1 ?_ | refine Zz w1 ?_ | refine Zy w2 ?_ | refine Zz w2 ?_ | refine Zy w3 ?_ | refine Zz w3 ?_ | refine Zy d0 ?_ | refine Zz d0 ?_ | refine Zy hQ ?_ | refine Zz hQ ?_); conv => whnf) | (refine Zb (fun h => ?_) (fun h => ?_) <;> first | exact Zx | (conv => whnf))))
        all_goals first | exact Zrz | (exfalso; omega)

end Go.Proofs.YtleknjngglhmaaaGreat
