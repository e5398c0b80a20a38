/- Yields: quantities times a number; Make. -/
import Derived.Test.YtoeghejbgibioaaY2
namespace Go.Proofs.Ytoeghejbgibioaa
open Go Go.RowKit
set_option linter.unusedVariables false
set_option linter.unusedSimpArgs false
set_option maxRecDepth 100000
set_option maxHeartbeats 4000000
attribute [local irreducible] ResLe AVle ArgLe ArgP EntLe Dle ResH ArgQ strEq strLt

def tmN (n : Int) (x : Nd) : Nd := ⟨x.c, x.q * n⟩
def tmL (us : List Nd) (n : Int) : List Nd := us.map (tmN n)
theorem tm_bnd {q n : Int} (h1 : 1 ≤ q ∧ q ≤ 1000000000) (h2 : 1 ≤ n ∧ n ≤ 1000) : 0 ≤ q * n ∧ q * n ≤ 1000000000000 := by
  constructor
  · exact Int.mul_nonneg (by omega) (by omega)
  · have := Int.mul_le_mul h1.2 h2.2 (by omega) (by omega)
    omega
theorem tmL_at (us : List Nd) (n : Int) {k : Nat} (h : k < us.length) : (tmL us n).getD k default = tmN n (us.getD k default) := by
  unfold tmL
  simp [List.getD_eq_getElem?_getD, h]
def tmF (us : List Nd) (n : Int) (k i j : Nat) : D := if i < k then ndE (tmN n (us.getD i default)) j else if j = 0 then .val (.string ByteArray.empty) else .val (.int .i64 0)
theorem tmF_set (us : List Nd) (n : Int) (k : Nat) (i j : Nat) (hj : j < 2) : Dle (setF (tmF us n k) k 0 [.val (.string (us.getD k default).c), .val (.int .i64 ((us.getD k default).q * n))] i j) (tmF us n (k + 1) i j) := by
  rw [setF_eq]
  unfold tmF
  by_cases hik : i = k
  · subst hik
    rw [if_pos ⟨rfl, by omega, by simp; omega⟩, if_pos (by omega)]
    rcases j with _ | _ | j
    · exact Dle.refl _
    · exact Dle.refl _
    · omega
  · rw [if_neg (by omega)]
    by_cases h : i < k
    · rw [if_pos h, if_pos (by omega)]; exact Dle.refl _
    · rw [if_neg h, if_neg (show ¬ i < k + 1 by omega)]; exact Dle.refl _
theorem tmF_end (us : List Nd) (n : Int) (i j : Nat) (hi : i < us.length) : tmF us n us.length i j = rowF ndE (tmL us n) i j := by
  unfold tmF rowF
  rw [if_pos hi, tmL_at us n hi]
theorem tmL_len (us : List Nd) (n : Int) : (tmL us n).length = us.length := by simp [tmL]
theorem ytimes_t (us : List Nd) (n : Int) (hL : us.length ≤ 1000000) (hn : 1 ≤ n ∧ n ≤ 1000) (hq : ∀ x ∈ us, 1 ≤ x.q ∧ x.q ≤ 1000000000) : ACalls XX 49 [.dat (ndD us), iA n] (.dat (ndD (tmL us n))) := by
  have e : AV.dat (ndD (tmL us n)) = .dat (.lst 2 us.length (rowF ndE (tmL us n))) := by
    show AV.dat (.lst 2 (tmL us n).length _) = _
    rw [tmL_len]
  rw [e]
  refine ACalls.of (n := Try.f49.ntmps) XX_ok Try.func49 rfl (by kernel_rfl) rfl rfl (Nat.le_of_ble_eq_true rfl) ?_
  (repeat' (first | refine Zs ?_ | refine Zk ?_ | ((first | refine Za ?_ | refine Zr ?_ | refine Zp ?_ | refine Ze ?_ | refine Zd ?_ | refine Zn ?_ | refine Zc ?_ | refine UnK.mk (fun b hb => ?_)); conv => whnf) | (refine Zb (fun h => ?_) (fun h => ?_) <;> first | exact Zx | (conv => whnf))))
  refine (W.loopK (ι := Nat) [0, 1, 11, 12, 5] [] (fun k => [(13, iA k)]) (fun k => [(10, .row 31 2 us.length (tmF us n k))]) (fun k => k ≤ us.length) (fun k => us.length - k) 0 (Nat.zero_le _) ?_ ?_ ?_)
  · exact Yz
  · (repeat' (first | exact trivial | exact Yr | exact Yi (by first | rfl | omega) | exact Yo (by first | rfl | omega) | exact Yd | exact Yn | exact Ye (by first | rfl | omega) | exact ⟨_, rfl, Yf, rfl⟩ | refine ⟨_, rfl, Yb ?_, rfl⟩ | refine ⟨_, rfl, Yw (by first | rfl | omega) ?_, rfl⟩ | refine And.intro ?_ ?_))
    intro i hi j hj
    unfold tmF
    rw [if_neg (by omega)]
    rcases j with _ | _ | j
    · exact Dle.refl _
    · exact Dle.refl _
    · omega
  conv => whnf
  intro k hk
  by_cases hk' : k < us.length
  · have hb := tm_bnd (hq _ (ygetD_in hk')) hn
    (repeat' (first | refine Zs ?_ | refine Zk ?_ | ((first | refine Za ?_ | refine Zr ?_ | refine Zp ?_ | refine Ze ?_ | refine Zd ?_ | refine Zn ?_ | refine Zc ?_ | refine UnK.mk (fun b hb => ?_)); conv => whnf) | (refine Zb (fun h => ?_) (fun h => ?_) <;> first | exact Zx | (conv => whnf))))
    all_goals (try dsimp only [Int.toNat_natCast] at *)
    (repeat' (first | refine Zs ?_ | refine Zk ?_ | ((first | refine Za ?_ | refine Zr ?_ | refine Zp ?_ | refine Ze ?_ | refine Zd ?_ | refine Zn ?_ | refine Zc ?_ | refine UnK.mk (fun b hb => ?_)); conv => whnf) | (refine Zb (fun h => ?_) (fun h => ?_) <;> first | exact Zx | (conv => whnf))))
    all_goals (try dsimp only [Int.toNat_natCast] at *)
    refine ⟨k + 1, by omega, by omega, ?_, ?_, ?_, ?_⟩
    all_goals (repeat' (first | exact trivial | exact Yr | exact Yi (by first | rfl | omega) | exact Yo (by first | rfl | omega) | exact Yd | exact Yn | exact Ye (by first | rfl | omega) | exact ⟨_, rfl, Yf, rfl⟩ | refine ⟨_, rfl, Yb ?_, rfl⟩ | refine ⟨_, rfl, Yw (by first | rfl | omega) ?_, rfl⟩ | refine And.intro ?_ ?_))
    intro i hi j hj
    rw [Nat.zero_add]
    exact tmF_set us n k i j hj
  · obtain rfl : k = us.length := by omega
    (repeat' (first | refine Zs ?_ | refine Zk ?_ | ((first | refine Za ?_ | refine Zr ?_ | refine Zp ?_ | refine Ze ?_ | refine Zd ?_ | refine Zn ?_ | refine Zc ?_ | refine UnK.mk (fun b hb => ?_)); conv => whnf) | (refine Zb (fun h => ?_) (fun h => ?_) <;> first | exact Zx | (conv => whnf))))
    all_goals first | (exfalso; omega) | skip
    refine ResLe.own rfl (by omega) fun i hi j hj => ?_
    rw [Nat.zero_add]
    exact Dle.of_eq (tmF_end us n i j (by omega))
theorem tmL_succ (us : List Nd) (n : Int) {k : Nat} (h : k < us.length) : tmL (us.take (k + 1)) n = tmL (us.take k) n ++ [tmN n (us.getD k default)] := by
  unfold tmL
  rw [List.take_add_one, List.map_append, List.getD_eq_getElem?_getD, List.getElem?_eq_getElem h]
  rfl
theorem asc_q {us : List Nd} {lo hi : Int} (h : ascOk us lo hi) : ∀ x ∈ us, lo ≤ x.q ∧ x.q ≤ hi := fun x hx => by
  obtain ⟨i, hi', rfl⟩ := List.getElem_of_mem hx
  obtain ⟨_, q1, q2, _⟩ := h i hi'
  rw [List.getD_eq_getElem?_getD, List.getElem?_eq_getElem hi'] at q1 q2
  exact ⟨q1, q2⟩
theorem ytimes2_t (us : List Nd) (n : Int) (hL : us.length ≤ 1000000) (hn : 1 ≤ n ∧ n ≤ 1000) (hq : ∀ x ∈ us, 1 ≤ x.q ∧ x.q ≤ 1000000000) : ACalls XX 50 [.dat (ndD us), iA n] (.dat (ndD (tmL us n))) := by
  refine ACalls.of (n := Try.f50.ntmps) XX_ok Try.func50 rfl (by kernel_rfl) rfl rfl (Nat.le_of_ble_eq_true rfl) ?_
  (repeat' (first | refine Zs ?_ | refine Zk ?_ | ((first | refine Za ?_ | refine Zr ?_ | refine Zp ?_ | refine Ze ?_ | refine Zd ?_ | refine W.drawT dr50 rfl mixed rfl ?_ | refine Zn ?_ | refine Zc ?_ | refine UnK.mk (fun b hb => ?_)); conv => whnf) | (refine Zb (fun h => ?_) (fun h => ?_) <;> first | exact Zx | (conv => whnf))))
  refine (W.adopt 5 28 31 2 (rowF ndE []) rfl rfl rfl rfl ?_)
  conv => whnf
  refine (W.loopK (ι := Nat) [0, 1] [] (fun k => [(6, iA k), (5, .own 28 2 0 (tmL (us.take k) n).length)]) (fun k => [(28, .row 31 2 (tmL (us.take k) n).length (rowF ndE (tmL (us.take k) n)))]) (fun k => k ≤ us.length) (fun k => us.length - k) 0 (Nat.zero_le _) ?_ ?_ ?_)
  · exact Yz
  · exact Yz
  conv => whnf
  intro k hk
  by_cases hk' : k < us.length
  · have hb := tm_bnd (hq _ (ygetD_in hk')) hn
    have hl : (tmL (us.take k) n).length = k := by rw [tmL_len, List.length_take]; omega
    have hl1 : (tmL (us.take k) n).length + 1 = (tmL (us.take (k + 1)) n).length := by rw [tmL_len, tmL_len, List.length_take, List.length_take]; omega
    (repeat' (first | refine Zs ?_ | refine Zk ?_ | ((first | refine Za ?_ | refine Zr ?_ | refine Zp ?_ | refine Ze ?_ | refine Zd ?_ | refine W.drawT dr50 rfl mixed rfl ?_ | refine Zn ?_ | refine Zc ?_ | refine UnK.mk (fun b hb => ?_)); conv => whnf) | (refine Zb (fun h => ?_) (fun h => ?_) <;> first | exact Zx | (conv => whnf))))
    all_goals (try dsimp only [Int.toNat_natCast] at *)
    (repeat' (first | refine Zs ?_ | refine Zk ?_ | ((first | refine Za ?_ | refine Zr ?_ | refine Zp ?_ | refine Ze ?_ | refine Zd ?_ | refine W.drawT dr50 rfl mixed rfl ?_ | refine Zn ?_ | refine Zc ?_ | refine UnK.mk (fun b hb => ?_)); conv => whnf) | (refine Zb (fun h => ?_) (fun h => ?_) <;> first | exact Zx | (conv => whnf))))
    all_goals (try dsimp only [Int.toNat_natCast] at *)
    all_goals first | (exfalso; omega) | skip
    refine ⟨k + 1, by omega, by omega, ?_, ?_, ?_, ?_⟩
    all_goals (repeat' (first | exact trivial | exact Yr | exact Yi (by first | rfl | exact hl1 | omega) | exact Yo (by first | rfl | exact hl1 | omega) | exact Yd | exact Yn | exact Ye (by first | rfl | exact hl1 | omega) | exact ⟨_, rfl, Yf, rfl⟩ | refine ⟨_, rfl, Yb ?_, rfl⟩ | refine ⟨_, rfl, Yw (by first | rfl | exact hl1 | omega) ?_, rfl⟩ | refine And.intro ?_ ?_))
    rw [tmL_succ us n hk']
    refine rowF_snoc rfl fun j hj => ?_
    rcases j with _ | _ | j
    · exact Dle.refl _
    · exact Dle.refl _
    · omega
  · obtain rfl : k = us.length := by omega
    rw [List.take_length]
    (repeat' (first | refine Zs ?_ | refine Zk ?_ | ((first | refine Za ?_ | refine Zr ?_ | refine Zp ?_ | refine Ze ?_ | refine Zd ?_ | refine W.drawT dr50 rfl mixed rfl ?_ | refine Zn ?_ | refine Zc ?_ | refine UnK.mk (fun b hb => ?_)); conv => whnf) | (refine Zb (fun h => ?_) (fun h => ?_) <;> first | exact Zx | (conv => whnf))))
    all_goals first | (exfalso; omega) | ((repeat' (first | exact trivial | exact Zm | exact Zl | exact ResLe.row0 rfl | exact Zi (by first | rfl | omega) | exact Zo (h := by first | rfl | omega) | exact ResLe.bo rfl rfl Iff.rfl | refine ResLe.agg ?_ | refine And.intro ?_ ?_ | ((conv => whnf); first | exact Zl | exact ResLe.row0 rfl | exact Zi (by first | rfl | omega) | exact Zo (h := by first | rfl | omega) | exact ResLe.bo rfl rfl Iff.rfl | refine ResLe.agg ?_ | refine And.intro ?_ ?_))); done)
theorem ymake_t (r : Rc) (n : Int) (hr : yrOk r) (hn : 1 ≤ n ∧ n ≤ 1000) : ACalls XX 27 [rcA r, iA n] (.tup [.dat (ndD (tmL r.ins n)), .dat (ndD (tmL r.outs n)), iA 0]) := by
  have b1 := hr.2.1
  have b2 := hr.2.2.1
  have l1 := b1.2
  have l2 := b2.2
  have l3 := hr.2.2.2.1
  have h1 := yvalidate_t r (by omega) (by omega) (by omega)
  rw [show yrErr r = 0 from if_pos hr] at h1
  have h2 := ytimes_t r.ins n (by omega) hn (asc_q b1.1)
  have h3 := ytimes_t r.outs n (by omega) hn (asc_q b2.1)
  refine ACalls.of (n := Try.f27.ntmps) XX_ok Try.func27 rfl (by kernel_rfl) rfl rfl (Nat.le_of_ble_eq_true rfl) ?_
  (repeat' (first | refine Zs ?_ | refine Zk ?_ | ((first | refine Za ?_ | refine Zr ?_ | refine Zp ?_ | refine Ze ?_ | refine Zd ?_ | refine W.drawT dr27 rfl mixed rfl ?_ | refine Zn ?_ | refine Zc ?_ | refine UnK.mk (fun b hb => ?_) | refine Zy h1 ?_ | refine Zz h1 ?_ | refine Zy h2 ?_ | refine Zz h2 ?_ | refine Zy h3 ?_ | refine Zz h3 ?_); conv => whnf) | (refine Zb (fun h => ?_) (fun h => ?_) <;> first | exact Zx | (conv => whnf))))
  all_goals first | (exfalso; omega) | ((repeat' (first | exact trivial | exact Zm | exact Zl | exact ResLe.row0 rfl | exact Zi (by first | rfl | omega) | exact Zo (h := by first | rfl | omega) | exact ResLe.bo rfl rfl Iff.rfl | refine ResLe.agg ?_ | refine And.intro ?_ ?_ | ((conv => whnf); first | exact Zl | exact ResLe.row0 rfl | exact Zi (by first | rfl | omega) | exact Zo (h := by first | rfl | omega) | exact ResLe.bo rfl rfl Iff.rfl | refine ResLe.agg ?_ | refine And.intro ?_ ?_))); done)
theorem ymake_no (r : Rc) (n : Int) (h1 : r.ins.length ≤ 9223372036854775807) (h2 : r.outs.length ≤ 9223372036854775807) (h3 : r.sc.length ≤ 9223372036854775807) (hr : ¬ (yrOk r ∧ 1 ≤ n ∧ n ≤ 1000)) : ACalls XX 27 [rcA r, iA n] (.tup [.dat (ndD []), .dat (ndD []), iA (if yrOk r then 2 else 1)]) := by
  have k1 := yvalidate_t r h1 h2 h3
  by_cases hk : yrOk r
  · rw [show yrErr r = 0 from if_pos hk] at k1
    rw [if_pos hk]
    refine ACalls.of (n := Try.f27.ntmps) XX_ok Try.func27 rfl (by kernel_rfl) rfl rfl (Nat.le_of_ble_eq_true rfl) ?_
    (repeat' (first | refine Zs ?_ | refine Zk ?_ | ((first | refine Za ?_ | refine Zr ?_ | refine Zp ?_ | refine Ze ?_ | refine Zd ?_ | refine W.drawT dr27 rfl mixed rfl ?_ | refine Zn ?_ | refine Zc ?_ | refine UnK.mk (fun b hb => ?_) | refine Zy k1 ?_ | refine Zz k1 ?_); conv => whnf) | (refine Zb (fun h => ?_) (fun h => ?_) <;> first | exact Zx | (conv => whnf))))
    all_goals first | (exfalso; exact hr ⟨hk, by omega, by omega⟩) | (exfalso; omega) | ((repeat' (first | exact trivial | exact Zm | exact Zl | exact ResLe.row0 rfl | exact Zi (by first | rfl | omega) | exact Zo (h := by first | rfl | omega) | exact ResLe.bo rfl rfl Iff.rfl | refine ResLe.agg ?_ | refine And.intro ?_ ?_ | ((conv => whnf); first | exact Zl | exact ResLe.row0 rfl | exact Zi (by first | rfl | omega) | exact Zo (h := by first | rfl | omega) | exact ResLe.bo rfl rfl Iff.rfl | refine ResLe.agg ?_ | refine And.intro ?_ ?_))); done)
  · rw [show yrErr r = 1 from if_neg hk] at k1
    rw [if_neg hk]
    refine ACalls.of (n := Try.f27.ntmps) XX_ok Try.func27 rfl (by kernel_rfl) rfl rfl (Nat.le_of_ble_eq_true rfl) ?_
    (repeat' (first | refine Zs ?_ | refine Zk ?_ | ((first | refine Za ?_ | refine Zr ?_ | refine Zp ?_ | refine Ze ?_ | refine Zd ?_ | refine W.drawT dr27 rfl mixed rfl ?_ | refine Zn ?_ | refine Zc ?_ | refine UnK.mk (fun b hb => ?_) | refine Zy k1 ?_ | refine Zz k1 ?_); conv => whnf) | (refine Zb (fun h => ?_) (fun h => ?_) <;> first | exact Zx | (conv => whnf))))
    all_goals first | (exfalso; omega) | ((repeat' (first | exact trivial | exact Zm | exact Zl | exact ResLe.row0 rfl | exact Zi (by first | rfl | omega) | exact Zo (h := by first | rfl | omega) | exact ResLe.bo rfl rfl Iff.rfl | refine ResLe.agg ?_ | refine And.intro ?_ ?_ | ((conv => whnf); first | exact Zl | exact ResLe.row0 rfl | exact Zi (by first | rfl | omega) | exact Zo (h := by first | rfl | omega) | exact ResLe.bo rfl rfl Iff.rfl | refine ResLe.agg ?_ | refine And.intro ?_ ?_))); done)
theorem ymake2_t (r : Rc) (n : Int) (hr : yrOk r) (hn : 1 ≤ n ∧ n ≤ 1000) (g1 : ∀ y ∈ r.ins, y.c.size ≤ 9223372036854775807) (g2 : ∀ y ∈ r.outs, y.c.size ≤ 9223372036854775807) : ACalls XX 28 [rcA r, iA n] (.tup [.dat (ndD (tmL r.ins n)), .dat (ndD (tmL r.outs n)), iA 0]) := by
  have b1 := hr.2.1
  have b2 := hr.2.2.1
  have l1 := b1.2
  have l2 := b2.2
  have l3 := hr.2.2.2.1
  have h1 := yrecipe_t r (by omega) (by omega) (by omega) g1 g2
  rw [show yrErr r = 0 from if_pos hr] at h1
  have h2 := ytimes2_t r.ins n (by omega) hn (asc_q b1.1)
  have h3 := ytimes2_t r.outs n (by omega) hn (asc_q b2.1)
  refine ACalls.of (n := Try.f28.ntmps) XX_ok Try.func28 rfl (by kernel_rfl) rfl rfl (Nat.le_of_ble_eq_true rfl) ?_
  (repeat' (first | refine Zs ?_ | refine Zk ?_ | ((first | refine Za ?_ | refine Zr ?_ | refine Zp ?_ | refine Ze ?_ | refine Zd ?_ | refine W.drawT dr28 rfl mixed rfl ?_ | refine Zn ?_ | refine Zc ?_ | refine UnK.mk (fun b hb => ?_) | refine Zy h1 ?_ | refine Zz h1 ?_ | refine Zy h2 ?_ | refine Zz h2 ?_ | refine Zy h3 ?_ | refine Zz h3 ?_); conv => whnf) | (refine Zb (fun h => ?_) (fun h => ?_) <;> first | exact Zx | (conv => whnf))))
  all_goals first | (exfalso; omega) | ((repeat' (first | exact trivial | exact Zm | exact Zl | exact ResLe.row0 rfl | exact Zi (by first | rfl | omega) | exact Zo (h := by first | rfl | omega) | exact ResLe.bo rfl rfl Iff.rfl | refine ResLe.agg ?_ | refine And.intro ?_ ?_ | ((conv => whnf); first | exact Zl | exact ResLe.row0 rfl | exact Zi (by first | rfl | omega) | exact Zo (h := by first | rfl | omega) | exact ResLe.bo rfl rfl Iff.rfl | refine ResLe.agg ?_ | refine And.intro ?_ ?_))); done)
theorem ymake2_no (r : Rc) (n : Int) (h1 : r.ins.length ≤ 9223372036854775807) (h2 : r.outs.length ≤ 9223372036854775807) (h3 : r.sc.length ≤ 9223372036854775807) (g1 : ∀ y ∈ r.ins, y.c.size ≤ 9223372036854775807) (g2 : ∀ y ∈ r.outs, y.c.size ≤ 9223372036854775807) (hr : ¬ (yrOk r ∧ 1 ≤ n ∧ n ≤ 1000)) : ACalls XX 28 [rcA r, iA n] (.tup [.dat (ndD []), .dat (ndD []), iA (if yrOk r then 2 else 1)]) := by
  have k1 := yrecipe_t r h1 h2 h3 g1 g2
  by_cases hk : yrOk r
  · rw [show yrErr r = 0 from if_pos hk] at k1
    rw [if_pos hk]
    refine ACalls.of (n := Try.f28.ntmps) XX_ok Try.func28 rfl (by kernel_rfl) rfl rfl (Nat.le_of_ble_eq_true rfl) ?_
    (repeat' (first | refine Zs ?_ | refine Zk ?_ | ((first | refine Za ?_ | refine Zr ?_ | refine Zp ?_ | refine Ze ?_ | refine Zd ?_ | refine W.drawT dr28 rfl mixed rfl ?_ | refine Zn ?_ | refine Zc ?_ | refine UnK.mk (fun b hb => ?_) | refine Zy k1 ?_ | refine Zz k1 ?_); conv => whnf) | (refine Zb (fun h => ?_) (fun h => ?_) <;> first | exact Zx | (conv => whnf))))
    all_goals first | (exfalso; exact hr ⟨hk, by omega, by omega⟩) | (exfalso; omega) | ((repeat' (first | exact trivial | exact Zm | exact Zl | exact ResLe.row0 rfl | exact Zi (by first | rfl | omega) | exact Zo (h := by first | rfl | omega) | exact ResLe.bo rfl rfl Iff.rfl | refine ResLe.agg ?_ | refine And.intro ?_ ?_ | ((conv => whnf); first | exact Zl | exact ResLe.row0 rfl | exact Zi (by first | rfl | omega) | exact Zo (h := by first | rfl | omega) | exact ResLe.bo rfl rfl Iff.rfl | refine ResLe.agg ?_ | refine And.intro ?_ ?_))); done)
  · rw [show yrErr r = 1 from if_neg hk] at k1
    rw [if_neg hk]
    refine ACalls.of (n := Try.f28.ntmps) XX_ok Try.func28 rfl (by kernel_rfl) rfl rfl (Nat.le_of_ble_eq_true rfl) ?_
    (repeat' (first | refine Zs ?_ | refine Zk ?_ | ((first | refine Za ?_ | refine Zr ?_ | refine Zp ?_ | refine Ze ?_ | refine Zd ?_ | refine W.drawT dr28 rfl mixed rfl ?_ | refine Zn ?_ | refine Zc ?_ | refine UnK.mk (fun b hb => ?_) | refine Zy k1 ?_ | refine Zz k1 ?_); conv => whnf) | (refine Zb (fun h => ?_) (fun h => ?_) <;> first | exact Zx | (conv => whnf))))
    all_goals first | (exfalso; omega) | ((repeat' (first | exact trivial | exact Zm | exact Zl | exact ResLe.row0 rfl | exact Zi (by first | rfl | omega) | exact Zo (h := by first | rfl | omega) | exact ResLe.bo rfl rfl Iff.rfl | refine ResLe.agg ?_ | refine And.intro ?_ ?_ | ((conv => whnf); first | exact Zl | exact ResLe.row0 rfl | exact Zi (by first | rfl | omega) | exact Zo (h := by first | rfl | omega) | exact ResLe.bo rfl rfl Iff.rfl | refine ResLe.agg ?_ | refine And.intro ?_ ?_))); done)
end Go.Proofs.Ytoeghejbgibioaa
