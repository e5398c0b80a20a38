/- Yields: how many batches a stock gives. -/
import Derived.Test.YtoeghejbgibioaaY4
namespace Go.Proofs.Ytoeghejbgibioaa
open Go Go.RowKit
set_option linter.unusedVariables false
set_option linter.unusedSimpArgs false
set_option maxRecDepth 100000
set_option maxHeartbeats 4000000
attribute [local irreducible] ResLe AVle ArgLe ArgP EntLe Dle ResH ArgQ strEq strLt

def btN (us ins : List Nd) : Int := ins.foldl (fun b x => if qtyS us x.c / x.q < b then qtyS us x.c / x.q else b) 1000000000000
theorem btN_snoc (us ins : List Nd) (x : Nd) : btN us (ins ++ [x]) = if qtyS us x.c / x.q < btN us ins then qtyS us x.c / x.q else btN us ins := by unfold btN; rw [List.foldl_append]; rfl
theorem take_snoc {α : Type} [Inhabited α] (l : List α) {k : Nat} (h : k < l.length) : l.take (k + 1) = l.take k ++ [l.getD k default] := by
  rw [List.take_add_one, List.getD_eq_getElem?_getD, List.getElem?_eq_getElem h]
  rfl
theorem qty_bnd (us : List Nd) (c : ByteArray) (hi : Int) (h0 : 0 ≤ hi) (hq : ∀ x ∈ us, 0 ≤ x.q ∧ x.q ≤ hi) : 0 ≤ qtyS us c ∧ qtyS us c ≤ hi * us.length := by
  revert hq
  refine rev_ind (P := fun us : List Nd => (∀ x ∈ us, 0 ≤ x.q ∧ x.q ≤ hi) → 0 ≤ qtyS us c ∧ qtyS us c ≤ hi * us.length) (fun _ => ⟨Int.le_refl _, by show (0 : Int) ≤ _; simp⟩) (fun us x ih h => ?_) us
  obtain ⟨h1, h2⟩ := ih fun y hy => h y (by simp [hy])
  have hx := h x (by simp)
  rw [qtyS_snoc, List.length_append, List.length_singleton]
  have e : hi * ((us.length + 1 : Nat) : Int) = hi * us.length + hi := by rw [Int.natCast_succ, Int.mul_add, Int.mul_one]
  rw [e]
  split <;> omega
def btOk (r : Rc) (us : List Nd) : Prop := yrOk r ∧ us.length ≤ 64 ∧ ascOk us 0 1000000000000
noncomputable instance (r : Rc) (us : List Nd) : Decidable (btOk r us) := Classical.propDecidable _
theorem ybatches_t (r : Rc) (us : List Nd) (h : btOk r us) : ACalls XX 11 [rcA r, .dat (ndD us)] (iA (btN us r.ins)) := by
  obtain ⟨hr, h64, hA⟩ := h
  have b1 := hr.2.1
  have b2 := hr.2.2.1
  have l1 := b1.2
  have l2 := b2.2
  have l3 := hr.2.2.2.1
  have k1 := yvalidate_t r (by omega) (by omega) (by omega)
  rw [show yrErr r = 0 from if_pos hr] at k1
  have k2 := yasc_t us 0 1000000000000 (by omega)
  rw [decide_eq_true hA] at k2
  refine ACalls.of (n := Try.f11.ntmps) XX_ok Try.func11 rfl (by kernel_rfl) rfl rfl (Nat.le_of_ble_eq_true rfl) ?_
  (repeat' (first | refine Zs ?_ | refine Zk ?_ | ((first | refine Za ?_ | refine Zr ?_ | refine Zp ?_ | refine Ze ?_ | refine Zd ?_ | refine Zn ?_ | refine Zc ?_ | refine UnK.mk (fun b hb => ?_) | refine Zy k1 ?_ | refine Zy k2 ?_); conv => whnf) | (refine Zb (fun h => ?_) (fun h => ?_) <;> first | exact Zx | (conv => whnf))))
  all_goals first | (exfalso; omega) | skip
  refine (W.loopK (ι := Nat) [2, 5, 27, 28] [2] (fun k => [(29, iA k)]) (fun k => [(26, .mp XX.P 9 3 (stM (us.take k)))]) (fun k => k ≤ us.length) (fun k => us.length - k) 0 (Nat.zero_le _) ?_ ?_ ?_)
  · exact Yz
  · exact Yz
  conv => whnf
  intro k hk
  by_cases hk' : k < us.length
  · have hx := hA k hk'
    have s1 : (us.getD k default).c.size ≤ maxLen := by rw [hx.1.1]; decide
    have s2 : (stM (us.take k)).length < maxLen := Nat.lt_of_le_of_lt (len_stM _) (by rw [List.length_take]; exact Nat.lt_of_le_of_lt (Nat.min_le_left _ _) (Nat.lt_of_lt_of_le (show k < 65 by omega) (by decide)))
    have s3 := hx.2.1
    have s4 := hx.2.2.1
    (repeat' (first | refine Zs ?_ | refine Zk ?_ | ((first | refine Za ?_ | refine Zr ?_ | refine Zp ?_ | refine Ze ?_ | refine Zd ?_ | refine Zn ?_ | refine Zc ?_ | refine UnK.mk (fun b hb => ?_)); conv => whnf) | (refine Zb (fun h => ?_) (fun h => ?_) <;> first | exact Zx | (conv => whnf))))
    all_goals (try dsimp only [Int.toNat_natCast] at *)
    (repeat' (first | refine Zs ?_ | refine Zk ?_ | ((first | refine Za ?_ | refine Zr ?_ | refine Zp ?_ | refine Ze ?_ | refine Zd ?_ | refine Zn ?_ | refine Zc ?_ | refine UnK.mk (fun b hb => ?_)); conv => whnf) | (refine Zb (fun h => ?_) (fun h => ?_) <;> first | exact Zx | (conv => whnf))))
    all_goals (try dsimp only [Int.toNat_natCast] at *)
    all_goals first | (exfalso; omega) | skip
    have e1 : stM (us.take (k + 1)) = putM (stM (us.take k)) (us.getD k default).c (us.getD k default).q := by rw [take_snoc us hk', stM_snoc]
    refine ⟨⟨rfl, rfl, rfl, s1, s2, by omega, by omega⟩, ?_⟩
    conv => whnf
    (repeat' (first | refine Zs ?_ | refine Zk ?_ | ((first | refine Za ?_ | refine Zr ?_ | refine Zp ?_ | refine Ze ?_ | refine Zd ?_ | refine Zn ?_ | refine Zc ?_ | refine UnK.mk (fun b hb => ?_)); conv => whnf) | (refine Zb (fun h => ?_) (fun h => ?_) <;> first | exact Zx | (conv => whnf))))
    refine ⟨k + 1, by omega, by omega, ?_, ?_, ?_, ?_⟩
    all_goals (try rw [e1])
    all_goals exact Yz
  obtain rfl : k = us.length := by omega
  rw [List.take_length]
  (repeat' (first | refine Zs ?_ | refine Zk ?_ | ((first | refine Za ?_ | refine Zr ?_ | refine Zp ?_ | refine Ze ?_ | refine Zd ?_ | refine Zn ?_ | refine Zc ?_ | refine UnK.mk (fun b hb => ?_)); conv => whnf) | (refine Zb (fun h => ?_) (fun h => ?_) <;> first | exact Zx | (conv => whnf))))
  all_goals first | (exfalso; omega) | skip
  refine (W.loopK (ι := Nat) [2, 5, 40, 41] [2, 26] (fun k => [(8, iA (btN us (r.ins.take k))), (42, iA k)]) (fun _ => []) (fun k => k ≤ r.ins.length) (fun k => r.ins.length - k) 0 (Nat.zero_le _) ?_ ?_ ?_)
  · exact Yz
  · exact Yz
  conv => whnf
  intro k hk
  by_cases hk' : k < r.ins.length
  · have hx := b1.1 k hk'
    have s1 : (r.ins.getD k default).c.size ≤ maxLen := by rw [hx.1.1]; decide
    have s3 := hx.2.1
    have s4 := hx.2.2.1
    have hg : getM (stM us) (r.ins.getD k default).c = qtyS us (r.ins.getD k default).c := qty_eq us _ fun i j hi hj e => asc_ne hA hi hj e
    have hb := qty_bnd us (r.ins.getD k default).c 1000000000000 (by omega) (asc_q hA)
    (repeat' (first | refine Zs ?_ | refine Zk ?_ | ((first | refine Za ?_ | refine Zr ?_ | refine Zp ?_ | refine Ze ?_ | refine Zd ?_ | refine Zn ?_ | refine Zc ?_ | refine UnK.mk (fun b hb => ?_)); conv => whnf) | (refine Zb (fun h => ?_) (fun h => ?_) <;> first | exact Zx | (conv => whnf))))
    all_goals (try dsimp only [Int.toNat_natCast] at *)
    (repeat' (first | refine Zs ?_ | refine Zk ?_ | ((first | refine Za ?_ | refine Zr ?_ | refine Zp ?_ | refine Ze ?_ | refine Zd ?_ | refine Zn ?_ | refine Zc ?_ | refine UnK.mk (fun b hb => ?_)); conv => whnf) | (refine Zb (fun h => ?_) (fun h => ?_) <;> first | exact Zx | (conv => whnf))))
    all_goals (try dsimp only [Int.toNat_natCast] at *)
    all_goals first | (exfalso; omega) | skip
    refine ⟨⟨rfl, rfl, rfl, s1⟩, ?_⟩
    conv => whnf
    rw [hg]
    (repeat' (first | refine Zs ?_ | refine Zk ?_ | ((first | refine Za ?_ | refine Zr ?_ | refine Zp ?_ | refine Ze ?_ | refine Zd ?_ | refine Zn ?_ | refine Zc ?_ | refine UnK.mk (fun b hb => ?_)); conv => whnf) | (refine Zb (fun h => ?_) (fun h => ?_) <;> first | exact Zx | (conv => whnf))))
    have e2 : btN us (r.ins.take (k + 1)) = if qtyS us (r.ins.getD k default).c / (r.ins.getD k default).q < btN us (r.ins.take k) then qtyS us (r.ins.getD k default).c / (r.ins.getD k default).q else btN us (r.ins.take k) := by rw [take_snoc r.ins hk', btN_snoc]
    refine ⟨k + 1, by omega, by omega, ?_, ?_, ?_, ?_⟩
    all_goals (repeat' (first | exact trivial | exact Yr | exact Yi (by first | exact e2.symm | rfl | omega) | exact Yo (by first | exact e2.symm | rfl | omega) | exact Yd | exact Yn | exact Ye (by first | exact e2.symm | rfl | omega) | exact ⟨_, rfl, Yf, rfl⟩ | refine ⟨_, rfl, Yb ?_, rfl⟩ | refine ⟨_, rfl, Yw (by first | exact e2.symm | rfl | omega) ?_, rfl⟩ | refine And.intro ?_ ?_))
  obtain rfl : k = r.ins.length := by omega
  rw [List.take_length]
  (repeat' (first | refine Zs ?_ | refine Zk ?_ | ((first | refine Za ?_ | refine Zr ?_ | refine Zp ?_ | refine Ze ?_ | refine Zd ?_ | refine Zn ?_ | refine Zc ?_ | refine UnK.mk (fun b hb => ?_)); conv => whnf) | (refine Zb (fun h => ?_) (fun h => ?_) <;> first | exact Zx | (conv => whnf))))
  all_goals first | (exfalso; omega) | ((repeat' (first | exact trivial | exact Zm | exact Zl | exact ResLe.row0 rfl | exact Zi (by first | rfl | omega) | exact Zo (h := by first | rfl | omega) | exact ResLe.bo rfl rfl Iff.rfl | refine ResLe.agg ?_ | refine And.intro ?_ ?_ | ((conv => whnf); first | exact Zl | exact ResLe.row0 rfl | exact Zi (by first | rfl | omega) | exact Zo (h := by first | rfl | omega) | exact ResLe.bo rfl rfl Iff.rfl | refine ResLe.agg ?_ | refine And.intro ?_ ?_))); done)
theorem ybatches_no (r : Rc) (us : List Nd) (h1 : r.ins.length ≤ 9223372036854775807) (h2 : r.outs.length ≤ 9223372036854775807) (h3 : r.sc.length ≤ 9223372036854775807) (h4 : us.length ≤ 9223372036854775807) (h : ¬ btOk r us) : ACalls XX 11 [rcA r, .dat (ndD us)] (iA 0) := by
  have k1 := yvalidate_t r h1 h2 h3
  have k2 := yasc_t us 0 1000000000000 h4
  by_cases hr : yrOk r
  rotate_left
  · rw [show yrErr r = 1 from if_neg hr] at k1
    refine ACalls.of (n := Try.f11.ntmps) XX_ok Try.func11 rfl (by kernel_rfl) rfl rfl (Nat.le_of_ble_eq_true rfl) ?_
    (repeat' (first | refine Zs ?_ | refine Zk ?_ | ((first | refine Za ?_ | refine Zr ?_ | refine Zp ?_ | refine Ze ?_ | refine Zd ?_ | refine Zn ?_ | refine Zc ?_ | refine UnK.mk (fun b hb => ?_) | refine Zy k1 ?_ | refine Zy k2 ?_); conv => whnf) | (refine Zb (fun h => ?_) (fun h => ?_) <;> first | exact Zx | (conv => whnf))))
    all_goals first | (exfalso; omega) | ((repeat' (first | exact trivial | exact Zm | exact Zl | exact ResLe.row0 rfl | exact Zi (by first | rfl | omega) | exact Zo (h := by first | rfl | omega) | exact ResLe.bo rfl rfl Iff.rfl | refine ResLe.agg ?_ | refine And.intro ?_ ?_ | ((conv => whnf); first | exact Zl | exact ResLe.row0 rfl | exact Zi (by first | rfl | omega) | exact Zo (h := by first | rfl | omega) | exact ResLe.bo rfl rfl Iff.rfl | refine ResLe.agg ?_ | refine And.intro ?_ ?_))); done)
  rw [show yrErr r = 0 from if_pos hr] at k1
  by_cases hl : us.length ≤ 64
  rotate_left
  · refine ACalls.of (n := Try.f11.ntmps) XX_ok Try.func11 rfl (by kernel_rfl) rfl rfl (Nat.le_of_ble_eq_true rfl) ?_
    (repeat' (first | refine Zs ?_ | refine Zk ?_ | ((first | refine Za ?_ | refine Zr ?_ | refine Zp ?_ | refine Ze ?_ | refine Zd ?_ | refine Zn ?_ | refine Zc ?_ | refine UnK.mk (fun b hb => ?_) | refine Zy k1 ?_ | refine Zy k2 ?_); conv => whnf) | (refine Zb (fun h => ?_) (fun h => ?_) <;> first | exact Zx | (conv => whnf))))
    all_goals first | (exfalso; omega) | ((repeat' (first | exact trivial | exact Zm | exact Zl | exact ResLe.row0 rfl | exact Zi (by first | rfl | omega) | exact Zo (h := by first | rfl | omega) | exact ResLe.bo rfl rfl Iff.rfl | refine ResLe.agg ?_ | refine And.intro ?_ ?_ | ((conv => whnf); first | exact Zl | exact ResLe.row0 rfl | exact Zi (by first | rfl | omega) | exact Zo (h := by first | rfl | omega) | exact ResLe.bo rfl rfl Iff.rfl | refine ResLe.agg ?_ | refine And.intro ?_ ?_))); done)
  have hA : ¬ ascOk us 0 1000000000000 := fun hA => h ⟨hr, hl, hA⟩
  rw [decide_eq_false hA] at k2
  refine ACalls.of (n := Try.f11.ntmps) XX_ok Try.func11 rfl (by kernel_rfl) rfl rfl (Nat.le_of_ble_eq_true rfl) ?_
  (repeat' (first | refine Zs ?_ | refine Zk ?_ | ((first | refine Za ?_ | refine Zr ?_ | refine Zp ?_ | refine Ze ?_ | refine Zd ?_ | refine Zn ?_ | refine Zc ?_ | refine UnK.mk (fun b hb => ?_) | refine Zy k1 ?_ | refine Zy k2 ?_); conv => whnf) | (refine Zb (fun h => ?_) (fun h => ?_) <;> first | exact Zx | (conv => whnf))))
  all_goals first | (exfalso; omega) | ((repeat' (first | exact trivial | exact Zm | exact Zl | exact ResLe.row0 rfl | exact Zi (by first | rfl | omega) | exact Zo (h := by first | rfl | omega) | exact ResLe.bo rfl rfl Iff.rfl | refine ResLe.agg ?_ | refine And.intro ?_ ?_ | ((conv => whnf); first | exact Zl | exact ResLe.row0 rfl | exact Zi (by first | rfl | omega) | exact Zo (h := by first | rfl | omega) | exact ResLe.bo rfl rfl Iff.rfl | refine ResLe.agg ?_ | refine And.intro ?_ ?_))); done)
theorem yqty_t (us : List Nd) (c : ByteArray) (h64 : us.length ≤ 64) (hq : ∀ x ∈ us, 0 ≤ x.q ∧ x.q ≤ 1000000000000) : ACalls XX 46 [.dat (ndD us), sY c] (iA (qtyS us c)) := by
  refine ACalls.of (n := Try.f46.ntmps) XX_ok Try.func46 rfl (by kernel_rfl) rfl rfl (Nat.le_of_ble_eq_true rfl) ?_
  (repeat' (first | refine Zs ?_ | refine Zk ?_ | ((first | refine Za ?_ | refine Zr ?_ | refine Zp ?_ | refine Ze ?_ | refine Zd ?_ | refine Zn ?_ | refine Zc ?_ | refine UnK.mk (fun b hb => ?_)); conv => whnf) | (refine Zb (fun h => ?_) (fun h => ?_) <;> first | exact Zx | (conv => whnf))))
  refine (W.loopK (ι := Nat) [0, 1] [] (fun k => [(5, iA (qtyS (us.take k) c)), (6, iA k)]) (fun _ => []) (fun k => k ≤ us.length) (fun k => us.length - k) 0 (Nat.zero_le _) ?_ ?_ ?_)
  · exact Yz
  · exact Yz
  conv => whnf
  intro k hk
  by_cases hk' : k < us.length
  · have hx := hq _ (ygetD_in hk')
    have hb := qty_bnd (us.take k) c 1000000000000 (by omega) fun x hx => hq x (List.mem_of_mem_take hx)
    rw [List.length_take, Nat.min_eq_left hk] at hb
    have e : qtyS (us.take (k + 1)) c = qtyS (us.take k) c + if (us.getD k default).c = c then (us.getD k default).q else 0 := by rw [take_snoc us hk', qtyS_snoc]
    (repeat' (first | refine Zs ?_ | refine Zk ?_ | ((first | refine Za ?_ | refine Zr ?_ | refine Zp ?_ | refine Ze ?_ | refine Zd ?_ | refine Zn ?_ | refine Zc ?_ | refine UnK.mk (fun b hb => ?_)); conv => whnf) | (refine Zb (fun h => ?_) (fun h => ?_) <;> first | exact Zx | (conv => whnf))))
    all_goals (try dsimp only [Int.toNat_natCast] at *)
    (repeat' (first | refine Zs ?_ | refine Zk ?_ | ((first | refine Za ?_ | refine Zr ?_ | refine Zp ?_ | refine Ze ?_ | refine Zd ?_ | refine Zn ?_ | refine Zc ?_ | refine UnK.mk (fun b hb => ?_)); conv => whnf) | (refine Zb (fun h => ?_) (fun h => ?_) <;> first | exact Zx | (conv => whnf))))
    all_goals (try dsimp only [Int.toNat_natCast] at *)
    all_goals first | (exfalso; omega) | skip
    · rw [if_pos ((strEq_iff _ _).1 h)] at e
      refine ⟨k + 1, by omega, by omega, ?_, ?_, ?_, ?_⟩
      all_goals (repeat' (first | exact trivial | exact Yr | exact Yi (by first | exact e.symm | rfl | omega) | exact Yo (by first | exact e.symm | rfl | omega) | exact Yd | exact Yn | exact Ye (by first | exact e.symm | rfl | omega) | exact ⟨_, rfl, Yf, rfl⟩ | refine ⟨_, rfl, Yb ?_, rfl⟩ | refine ⟨_, rfl, Yw (by first | exact e.symm | rfl | omega) ?_, rfl⟩ | refine And.intro ?_ ?_))
    · rw [if_neg (fun hh => by rw [(strEq_iff _ _).2 hh] at h; cases h), Int.add_zero] at e
      refine ⟨k + 1, by omega, by omega, ?_, ?_, ?_, ?_⟩
      all_goals (repeat' (first | exact trivial | exact Yr | exact Yi (by first | exact e.symm | rfl | omega) | exact Yo (by first | exact e.symm | rfl | omega) | exact Yd | exact Yn | exact Ye (by first | exact e.symm | rfl | omega) | exact ⟨_, rfl, Yf, rfl⟩ | refine ⟨_, rfl, Yb ?_, rfl⟩ | refine ⟨_, rfl, Yw (by first | exact e.symm | rfl | omega) ?_, rfl⟩ | refine And.intro ?_ ?_))
  obtain rfl : k = us.length := by omega
  rw [List.take_length]
  (repeat' (first | refine Zs ?_ | refine Zk ?_ | ((first | refine Za ?_ | refine Zr ?_ | refine Zp ?_ | refine Ze ?_ | refine Zd ?_ | refine Zn ?_ | refine Zc ?_ | refine UnK.mk (fun b hb => ?_)); conv => whnf) | (refine Zb (fun h => ?_) (fun h => ?_) <;> first | exact Zx | (conv => whnf))))
  all_goals first | (exfalso; omega) | ((repeat' (first | exact trivial | exact Zm | exact Zl | exact ResLe.row0 rfl | exact Zi (by first | rfl | omega) | exact Zo (h := by first | rfl | omega) | exact ResLe.bo rfl rfl Iff.rfl | refine ResLe.agg ?_ | refine And.intro ?_ ?_ | ((conv => whnf); first | exact Zl | exact ResLe.row0 rfl | exact Zi (by first | rfl | omega) | exact Zo (h := by first | rfl | omega) | exact ResLe.bo rfl rfl Iff.rfl | refine ResLe.agg ?_ | refine And.intro ?_ ?_))); done)
end Go.Proofs.Ytoeghejbgibioaa
