/- Shares by the largest remainder (the package apportion); units taken in proportion. -/
import Derived.Test.YtojkeidijdcfoaaGreatDoorB2
namespace Go.Proofs.YtojkeidijdcfoaaGreatDoor
open Go Go.RowKit
set_option linter.unusedVariables false
set_option linter.unusedSimpArgs false
set_option maxRecDepth 100000
set_option maxHeartbeats 4000000
attribute [local irreducible] ResLe AVle ArgLe ArgP EntLe Dle ResH ArgQ

theorem check_t (t : Int) (ws : List Int) (hw : wOk ws) (hn : ws.length ≤ 1000) (ht : 0 ≤ t ∧ t ≤ 1000000000000) (h0 : ws = [] → t = 0) : ACalls XX 115 [iA t, .dat (iD ws)] (iA 0) := by
  have hl0 : ws.length = 0 → t = 0 := fun h => h0 (List.length_eq_zero_iff.1 h)
  refine ACalls.of (n := Tryz.f115.ntmps) XX_ok Tryz.func115 rfl (by kernel_rfl) rfl rfl (Nat.le_of_ble_eq_true rfl) ?_
  (repeat' (first | refine Zs ?_ | refine Zk ?_ | ((first | refine Za ?_ | refine Zr ?_ | refine Zp ?_ | refine Ze ?_ | refine Zd ?_ | refine Zn ?_ | refine Zc ?_ | refine UnK.mk (fun b hb => ?_)); conv => whnf) | (refine Zb (fun h => ?_) (fun h => ?_) <;> first | exact Zx | (conv => whnf))))
  refine (W.loopK (ι := Nat) [0, 1, 16, 17] [] (fun k => [(18, iA k)]) (fun _ => []) (fun k => k ≤ ws.length) (fun k => ws.length - k) 0 (Nat.zero_le _) ?_ ?_ ?_)
  · exact Yz
  · exact Yz
  conv => whnf
  intro k hk
  by_cases hk' : k < ws.length
  · have hx := hw _ (getD_in hk')
    (repeat' (first | refine Zs ?_ | refine Zk ?_ | ((first | refine Za ?_ | refine Zr ?_ | refine Zp ?_ | refine Ze ?_ | refine Zd ?_ | refine Zn ?_ | refine Zc ?_ | refine UnK.mk (fun b hb => ?_)); conv => whnf) | (refine Zb (fun h => ?_) (fun h => ?_) <;> first | exact Zx | (conv => whnf))))
    all_goals (try dsimp only [Int.toNat_natCast] at *)
    all_goals first | (exfalso; omega) | skip
    refine ⟨k + 1, by omega, by omega, ?_, ?_, ?_, ?_⟩ <;> (repeat' (first | exact trivial | exact Yr | exact Yi (by first | rfl | omega) | exact Yo (by first | rfl | omega) | exact Yd | exact Yn | exact Ye (by first | rfl | omega) | exact ⟨_, rfl, Yf, rfl⟩ | refine ⟨_, rfl, Yb ?_, rfl⟩ | refine ⟨_, rfl, Yw (by first | rfl | omega) ?_, rfl⟩ | refine And.intro ?_ ?_))
  · obtain rfl : k = ws.length := by omega
    (repeat' (first | refine Zs ?_ | refine Zk ?_ | ((first | refine Za ?_ | refine Zr ?_ | refine Zp ?_ | refine Ze ?_ | refine Zd ?_ | refine Zn ?_ | refine Zc ?_ | refine UnK.mk (fun b hb => ?_)); conv => whnf) | (refine Zb (fun h => ?_) (fun h => ?_) <;> first | exact Zx | (conv => whnf))))
    all_goals first | exact Zrz | (exfalso; omega)
theorem sumOf_t (ws : List Int) (hw : wOk ws) (hn : ws.length ≤ 1000) : ACalls XX 116 [.dat (iD ws)] (iA ws.sum) := by
  refine ACalls.of (n := Tryz.f116.ntmps) XX_ok Tryz.func116 rfl (by kernel_rfl) rfl rfl (Nat.le_of_ble_eq_true rfl) ?_
  (repeat' (first | refine Zs ?_ | refine Zk ?_ | ((first | refine Za ?_ | refine Zr ?_ | refine Zp ?_ | refine Ze ?_ | refine Zd ?_ | refine Zn ?_ | refine Zc ?_ | refine UnK.mk (fun b hb => ?_)); conv => whnf) | (refine Zb (fun h => ?_) (fun h => ?_) <;> first | exact Zx | (conv => whnf))))
  refine (W.loopK (ι := Nat) [6, 7] [] (fun k => [(8, iA k), (3, iA (ws.take k).sum)]) (fun _ => []) (fun k => k ≤ ws.length ∧ 0 ≤ (ws.take k).sum ∧ (ws.take k).sum ≤ 1000000000000 * k) (fun k => ws.length - k) 0 ⟨Nat.zero_le _, by simp, by simp⟩ ?_ ?_ ?_)
  · (repeat' (first | exact trivial | exact Yr | exact Yi (by first | rfl | (simp; done) | omega) | exact Yo (by first | rfl | (simp; done) | omega) | exact Yd | exact Yn | exact Ye (by first | rfl | (simp; done) | omega) | exact ⟨_, rfl, Yf, rfl⟩ | refine ⟨_, rfl, Yb ?_, rfl⟩ | refine ⟨_, rfl, Yw (by first | rfl | (simp; done) | omega) ?_, rfl⟩ | refine And.intro ?_ ?_))
  · exact Yz
  conv => whnf
  intro k ⟨hk, hs0, hs1⟩
  by_cases hk' : k < ws.length
  · have hx := hw _ (getD_in hk')
    have hs : (ws.take (k + 1)).sum = (ws.take k).sum + ws.getD k default := sum_take0 ws k hk'
    (repeat' (first | refine Zs ?_ | refine Zk ?_ | ((first | refine Za ?_ | refine Zr ?_ | refine Zp ?_ | refine Ze ?_ | refine Zd ?_ | refine Zn ?_ | refine Zc ?_ | refine UnK.mk (fun b hb => ?_)); conv => whnf) | (refine Zb (fun h => ?_) (fun h => ?_) <;> first | exact Zx | (conv => whnf))))
    all_goals (try dsimp only [Int.toNat_natCast] at *)
    refine ⟨k + 1, ⟨by omega, by omega, by omega⟩, by omega, ?_, ?_, ?_, ?_⟩ <;> (repeat' (first | exact trivial | exact Yr | exact Yi (by first | rfl | omega) | exact Yo (by first | rfl | omega) | exact Yd | exact Yn | exact Ye (by first | rfl | omega) | exact ⟨_, rfl, Yf, rfl⟩ | refine ⟨_, rfl, Yb ?_, rfl⟩ | refine ⟨_, rfl, Yw (by first | rfl | omega) ?_, rfl⟩ | refine And.intro ?_ ?_))
  · obtain rfl : k = ws.length := by omega
    rw [List.take_length] at *
    (repeat' (first | refine Zs ?_ | refine Zk ?_ | ((first | refine Za ?_ | refine Zr ?_ | refine Zp ?_ | refine Ze ?_ | refine Zd ?_ | refine Zn ?_ | refine Zc ?_ | refine UnK.mk (fun b hb => ?_)); conv => whnf) | (refine Zb (fun h => ?_) (fun h => ?_) <;> first | exact Zx | (conv => whnf))))
    all_goals exact Zrz
theorem isNaNu_d (a : Int) : ACalls XD 143 [uA a] (bA false) := by
  refine ACalls.of (n := Tryz.f143.ntmps) XD_ok Tryz.func143 rfl (by kernel_rfl) rfl rfl (Nat.le_of_ble_eq_true rfl) ?_
  (repeat' (first | refine Zs ?_ | refine Zk ?_ | ((first | refine Za ?_ | refine Zr ?_ | refine Zp ?_ | refine Ze ?_ | refine Zd ?_ | refine Zn ?_ | refine Zc ?_ | refine UnK.mk (fun b hb => ?_)); conv => whnf) | (refine Zb (fun h => ?_) (fun h => ?_) <;> first | exact Zx | (conv => whnf))))
  all_goals (repeat' (first | exact trivial | exact Zm | exact Zl | exact ResLe.row0 rfl | exact Zi (by simp) | exact Zo (h := by simp) | exact ResLe.bo rfl rfl Iff.rfl | refine ResLe.agg ?_ | refine And.intro ?_ ?_ | ((conv => whnf); first | exact Zl | exact ResLe.row0 rfl | exact Zi (by simp) | exact Zo (h := by simp) | exact ResLe.bo rfl rfl Iff.rfl | refine ResLe.agg ?_ | refine And.intro ?_ ?_)))
theorem cmpu_d (a b : Int) : ACalls XD 136 [uA a, uA b] (iA (cmpI a b)) := by
  have h := isNaNu_d
  refine ACalls.of (n := Tryz.f136.ntmps) XD_ok Tryz.func136 rfl (by kernel_rfl) rfl rfl (Nat.le_of_ble_eq_true rfl) ?_
  (repeat' (first | refine Zs ?_ | refine Zk ?_ | ((first | refine Za ?_ | refine Zr ?_ | refine Zp ?_ | refine Ze ?_ | refine Zd ?_ | refine Zn ?_ | refine Zc ?_ | refine UnK.mk (fun b hb => ?_) | refine Zy (h _) ?_); conv => whnf) | (refine Zb (fun h => ?_) (fun h => ?_) <;> first | exact Zx | (conv => whnf))))
  all_goals (repeat' (first | exact trivial | exact Zm | exact Zl | exact ResLe.row0 rfl | exact Zi (by unfold cmpI; first | rw [if_pos (by omega)] | rw [if_neg (by omega), if_pos (by omega)] | rw [if_neg (by omega), if_neg (by omega)]) | exact Zo (h := by unfold cmpI; first | rw [if_pos (by omega)] | rw [if_neg (by omega), if_pos (by omega)] | rw [if_neg (by omega), if_neg (by omega)]) | exact ResLe.bo rfl rfl Iff.rfl | refine ResLe.agg ?_ | refine And.intro ?_ ?_ | ((conv => whnf); first | exact Zl | exact ResLe.row0 rfl | exact Zi (by unfold cmpI; first | rw [if_pos (by omega)] | rw [if_neg (by omega), if_pos (by omega)] | rw [if_neg (by omega), if_neg (by omega)]) | exact Zo (h := by unfold cmpI; first | rw [if_pos (by omega)] | rw [if_neg (by omega), if_pos (by omega)] | rw [if_neg (by omega), if_neg (by omega)]) | exact ResLe.bo rfl rfl Iff.rfl | refine ResLe.agg ?_ | refine And.intro ?_ ?_)))
abbrev poA (i q r : Int) : AV := .agg [iA i, uA q, uA r]
theorem byRest_d (i q r i' q' r' : Int) : ACalls XD 118 [poA i q r, poA i' q' r'] (iA (if cmpI r' r ≠ 0 then cmpI r' r else cmpI i i')) := by
  have h1 := cmpu_d r' r
  have h2 := cmp_d i i'
  by_cases h : cmpI r' r ≠ 0
  · rw [if_pos h]
    refine ACalls.of (n := Tryz.f118.ntmps) XD_ok Tryz.func118 rfl (by kernel_rfl) rfl rfl (Nat.le_of_ble_eq_true rfl) ?_
    (repeat' (first | refine Zs ?_ | refine Zk ?_ | ((first | refine Za ?_ | refine Zr ?_ | refine Zp ?_ | refine Ze ?_ | refine Zd ?_ | refine Zn ?_ | refine Zc ?_ | refine UnK.mk (fun b hb => ?_) | refine Zy h1 ?_ | refine Zy h2 ?_); conv => whnf) | (refine Zb (fun h => ?_) (fun h => ?_) <;> first | exact Zx | (conv => whnf))))
    all_goals exact Zrz
  · rw [if_neg h]
    refine ACalls.of (n := Tryz.f118.ntmps) XD_ok Tryz.func118 rfl (by kernel_rfl) rfl rfl (Nat.le_of_ble_eq_true rfl) ?_
    (repeat' (first | refine Zs ?_ | refine Zk ?_ | ((first | refine Za ?_ | refine Zr ?_ | refine Zp ?_ | refine Ze ?_ | refine Zd ?_ | refine Zn ?_ | refine Zc ?_ | refine UnK.mk (fun b hb => ?_) | refine Zy h1 ?_ | refine Zy h2 ?_); conv => whnf) | (refine Zb (fun h => ?_) (fun h => ?_) <;> first | exact Zx | (conv => whnf))))
    all_goals exact Zrz
abbrev rkA : AV := .ro 1 fun _ => .val (.func (.func 118) #[] #[])
theorem sort1_d (i q r i' q' r' : Int) (c : Nat → D) (hc : c 0 = .val (.func (.func 118) #[] #[])) : ACalls XD 138 [poA i q r, poA i' q' r', .ro 1 c] (iA (if cmpI r' r ≠ 0 then cmpI r' r else cmpI i i')) := by
  have h := byRest_d i q r i' q' r'
  obtain ⟨F, hF⟩ : ∃ F : Nat → D, F = fun _ => .val (.func (.func 118) #[] #[]) := ⟨_, rfl⟩
  have key : ACalls XD 138 [poA i q r, poA i' q' r', rkA] (iA (if cmpI r' r ≠ 0 then cmpI r' r else cmpI i i')) := by
    refine ACalls.of (n := Tryz.f138.ntmps) XD_ok Tryz.func138 rfl (by kernel_rfl) rfl rfl (Nat.le_of_ble_eq_true rfl) ?_
    (repeat' (first | refine Zs ?_ | refine Zk ?_ | ((first | refine Za ?_ | refine Zr ?_ | refine Zp ?_ | refine Ze ?_ | refine Zd ?_ | refine Zn ?_ | refine Zc ?_ | refine UnK.mk (fun b hb => ?_) | refine Zy h ?_); conv => whnf) | (refine Zb (fun h => ?_) (fun h => ?_) <;> first | exact Zx | (conv => whnf))))
    all_goals exact Zrz
  refine key.args ⟨AVle.refl _, AVle.refl _, ?_, trivial⟩
  have : AVle (.ro 1 c) rkA := by
    unfold AVle
    intro ρ M v hv
    cases hv with
    | ro _ _ ad u hm hd =>
      refine .ro _ _ ad u hm fun j hj => ?_
      obtain rfl : j = 0 := by omega
      have := hd 0 hj
      rw [hc] at this
      exact this
  exact this
def poF (Q R : Nat → Int) (i j : Nat) : D := match j with
  | 0 => .val (.int .i64 i)
  | 1 => .val (.int .u64 (Q i))
  | _ => .val (.int .u64 (R i))
theorem rsort_h (Q R : Nat → Int) (n : Nat) (hn : n ≤ 1000) :
    HC XX 119 [.agg [.dat (.val (.func (.func 118) #[] #[]))], .own 5000 3 0 n] [(5000, .row 159 3 n (poF Q R))] (.tup []) [(5000, .row 159 3 n fun i => poF Q R (sortAt n (cfP R) i))] none := by
  have hs := fun (c : Nat → D) (hc : c 0 = .val (.func (.func 118) #[] #[])) => sort_c (X := XX) (cf := cfP R) (F := poF Q R) (cc := [.ro 1 c]) rfl Tryz.sort137 rfl ⟨_, Tryz.func137, rfl, rfl⟩ Tryz.isAgg159 Tryz.sizeOf159
    (enters_of Tryz.func138 (by kernel_rfl) rfl) (cfP_swo R) (n := n) (E := 159) (by omega) (by omega) (fun i j hi hj => sort1_d i (Q i) (R i) j (Q j) (R j) c hc)
  refine HC.of (n := Tryz.f119.ntmps) XX_ok Tryz.func119 rfl (by kernel_rfl) rfl rfl (Nat.le_of_ble_eq_true rfl) rfl rfl ?_
  refine W.seq ?_
  refine W.region ?_
  conv => whnf
  refine (W.pubB 2 2 rfl rfl rfl ?_)
  conv => whnf
  (repeat' (first | refine Zs ?_ | refine Zk ?_ | ((first | refine Za ?_ | refine Zr ?_ | refine Zp ?_ | refine Ze ?_ | refine Zd ?_ | refine Zn ?_ | refine Zc ?_ | refine UnK.mk (fun b hb => ?_) | refine ExCall.h [(5000, 5000)] rfl (hs _ rfl) rfl ⟨rfl, trivial⟩ ?_); conv => whnf) | (refine Zb (fun h => ?_) (fun h => ?_) <;> first | exact Zx | (conv => whnf))))
  all_goals (conv => whnf); (repeat' (first | exact trivial | exact AVle.refl _ | exact EntLe.refl _ | exact AVle.int (by first | rfl | omega) | exact ResH.same (AVle.refl _) | exact ResH.same (AVle.own (by first | rfl | omega)) | exact ResH.same (AVle.int (by first | rfl | omega)) | exact ResH.same (AVle.bool (by simp only [decide_eq_true_eq, decide_eq_false_iff_not, decide_eq_decide]; first | rfl | omega)) | exact ResH.same (AVle.tt_ (by simp only [decide_eq_true_eq, decide_eq_false_iff_not, decide_eq_decide]; first | rfl | omega)) | exact ResH.same (AVle.ff_ (by simp only [decide_eq_true_eq, decide_eq_false_iff_not, decide_eq_decide]; first | rfl | omega)) | exact ResH.same (AVle.tt_ rfl) | exact ResH.same (AVle.ff_ rfl) | refine ResH.agg ?_ | exact ⟨_, rfl, EntLe.refl _, rfl⟩ | refine ⟨_, rfl, EntLe.blk ?_, rfl⟩ | refine ⟨_, rfl, EntLe.row (by first | rfl | omega) ?_, rfl⟩ | refine And.intro ?_ ?_ | ((conv => whnf); first | exact ResH.same (AVle.refl _) | exact ResH.same (AVle.own (by first | rfl | omega)) | exact ResH.same (AVle.int (by first | rfl | omega)) | exact ResH.same (AVle.bool (by simp only [decide_eq_true_eq, decide_eq_false_iff_not, decide_eq_decide]; first | rfl | omega)) | exact ResH.same (AVle.tt_ (by simp only [decide_eq_true_eq, decide_eq_false_iff_not, decide_eq_decide]; first | rfl | omega)) | exact ResH.same (AVle.ff_ (by simp only [decide_eq_true_eq, decide_eq_false_iff_not, decide_eq_decide]; first | rfl | omega)) | exact ResH.same (AVle.tt_ rfl) | exact ResH.same (AVle.ff_ rfl) | refine ResH.agg ?_)))

theorem fnOk_MulMod : FnOk Tryz.prog 117 := ⟨_, Tryz.func117, rfl, rfl⟩
theorem mulMod_t (a b c : Int) (ha : 0 ≤ a ∧ a < 18446744073709551616) (hb : 0 ≤ b ∧ b < 18446744073709551616) (hc : 0 < c ∧ c < 18446744073709551616) : ACalls XX 117 [uA a, uA b, uA c] (uA (a * b % c)) := by
  obtain ⟨x, rfl⟩ := Int.eq_ofNat_of_zero_le ha.1
  obtain ⟨y, rfl⟩ := Int.eq_ofNat_of_zero_le hb.1
  obtain ⟨z, rfl⟩ := Int.eq_ofNat_of_zero_le (Int.le_of_lt hc.1)
  have e : (x : Int) * y % z = ((if z = 0 then 0 else x * y % z : Nat) : Int) := by rw [if_neg (by omega)]; simp
  rw [e]
  refine ACalls.of_calls (vs := [.int .u64 x, .int .u64 y, .int .u64 z]) (v := .int .u64 ((if z = 0 then 0 else x * y % z : Nat) : Int)) fnOk_MulMod rfl rfl fun w => ?_
  exact exMulMod_any x y z (by omega) (by omega) (by omega) w

def poR (Q R : Nat → Int) (k i j : Nat) : D := match j with
  | 0 => .val (.int .i64 (if i < k then (i : Int) else 0))
  | 1 => .val (.int .u64 (if i < k then Q i else 0))
  | _ => .val (.int .u64 (if i < k then R i else 0))
theorem poR_set (Q R : Nat → Int) (n k : Nat) : ∀ i, i < n → ∀ j, j < 3 → Dle (setF (poR Q R k) k 0 [.val (.int .i64 k), .val (.int .u64 (Q k)), .val (.int .u64 (R k))] i j) (poR Q R (k + 1) i j) := by
  intro i hi j hj
  rw [setF_eq]
  split
  · rename_i h
    obtain ⟨rfl, _, _⟩ := h
    rcases j with _ | _ | _ | j
    · show Dle (.val (.int .i64 i)) (.val (.int .i64 (if i < i + 1 then (i : Int) else 0)))
      rw [if_pos (by omega)]; exact Dle.refl _
    · show Dle (.val (.int .u64 (Q i))) (.val (.int .u64 (if i < i + 1 then Q i else 0)))
      rw [if_pos (by omega)]; exact Dle.refl _
    · show Dle (.val (.int .u64 (R i))) (.val (.int .u64 (if i < i + 1 then R i else 0)))
      rw [if_pos (by omega)]; exact Dle.refl _
    · omega
  · rename_i h
    have hik : i ≠ k := fun e => h ⟨e, Nat.zero_le _, by simp; omega⟩
    have e : (i < k + 1) ↔ (i < k) := by omega
    rcases j with _ | _ | _ | j
    · show Dle (.val (.int .i64 (if i < k then (i : Int) else 0))) (.val (.int .i64 (if i < k + 1 then (i : Int) else 0)))
      simp only [e]; exact Dle.refl _
    · show Dle (.val (.int .u64 (if i < k then Q i else 0))) (.val (.int .u64 (if i < k + 1 then Q i else 0)))
      simp only [e]; exact Dle.refl _
    · show Dle (.val (.int .u64 (if i < k then R i else 0))) (.val (.int .u64 (if i < k + 1 then R i else 0)))
      simp only [e]; exact Dle.refl _
    · omega
theorem poR_full (Q R : Nat → Int) (n : Nat) : ∀ i, i < n → ∀ j, j < 3 → Dle (poR Q R n i j) (poF Q R i j) := by
  intro i hi j hj
  rcases j with _ | _ | _ | j
  · show Dle (.val (.int .i64 (if i < n then (i : Int) else 0))) _
    rw [if_pos hi]; exact Dle.refl _
  · show Dle (.val (.int .u64 (if i < n then Q i else 0))) _
    rw [if_pos hi]; exact Dle.refl _
  · show Dle (.val (.int .u64 (if i < n then R i else 0))) _
    rw [if_pos hi]; exact Dle.refl _
  · omega
def portV (Q R : Nat → Int) (n l k j : Nat) : Int := if among n R k j = true then Q j + (if among n R (min k l) j = true then 1 else 0) else 0
def portP (Q R : Nat → Int) (n l k : Nat) : List Int := (List.range n).map (portV Q R n l k)
theorem portP_len (Q R : Nat → Int) (n l k : Nat) : (portP Q R n l k).length = n := by simp [portP]
theorem portP_zero (Q R : Nat → Int) (n l i : Nat) : (portP Q R n l 0).getD i 0 = 0 := by
  have h0 : ∀ j, among n R 0 j = false := fun j => by
    cases hb : among n R 0 j with
    | false => rfl
    | true => obtain ⟨i, hi, _⟩ := among_iff.1 hb; omega
  unfold portP portV
  by_cases h : i < n
  · simp [h, h0]
  · simp [h]
theorem portP_set (Q R : Nat → Int) (n l k : Nat) (hk : k < n) : (portP Q R n l k).set (sortAt n (cfP R) k) (Q (sortAt n (cfP R) k) + (if k < l then 1 else 0)) = portP Q R n l (k + 1) := by
  have hs := sortAt_lt (cfP_swo R) hk
  apply List.ext_getElem?
  intro j
  rw [List.getElem?_set]
  unfold portP
  by_cases hj : j < n
  · by_cases he : sortAt n (cfP R) k = j
    · subst he
      rw [if_pos rfl, if_pos (by simpa using hs), List.getElem?_map, List.getElem?_range hs]
      simp only [Option.map_some, portV, among_at hk]
      simp only [decide_eq_true_eq]
      rw [if_pos (show k < k + 1 by omega)]
      by_cases hl : k < l
      · rw [if_pos hl, if_pos (by omega)]
      · rw [if_neg hl, if_neg (by omega)]
    · rw [if_neg he, List.getElem?_map, List.getElem?_map, List.getElem?_range hj]
      simp only [Option.map_some, portV]
      have h1 : ∀ m, m ≤ k → among n R (m + 1) j = among n R m j ∨ m < k := fun m hm => by
        rcases Nat.lt_or_ge m k with h | h
        · exact .inr h
        · obtain rfl : m = k := by omega
          left
          rw [among_succ hk]
          have : Nat.beq (sortAt n (cfP R) m) j = false := by
            cases hb : Nat.beq (sortAt n (cfP R) m) j with
            | false => rfl
            | true => exact absurd (Nat.eq_of_beq_eq_true hb) he
          rw [this, Bool.or_false]
      have h2 : among n R (k + 1) j = among n R k j := by rcases h1 k (Nat.le_refl _) with h | h
                                                          · exact h
                                                          · omega
      have h3 : among n R (min (k + 1) l) j = among n R (min k l) j := by
        rcases Nat.lt_or_ge k l with h | h
        · rw [Nat.min_eq_left (by omega), Nat.min_eq_left (by omega), h2]
        · rw [Nat.min_eq_right (by omega), Nat.min_eq_right (by omega)]
      rw [h2, h3]
  · rw [if_neg (by omega)]
    simp [hj]
theorem portP_full (t : Int) (ws : List Int) : portP (shQ t ws) (shR t ws) ws.length (leftQ t ws).toNat ws.length = shareL t ws := by
  unfold portP shareL
  apply List.map_congr_left
  intro j hj
  have hj := List.mem_range.1 hj
  unfold portV shV
  rw [if_pos (among_full (Nat.le_refl _) hj)]
  have : among ws.length (shR t ws) (min ws.length (leftQ t ws).toNat) j = among ws.length (shR t ws) (leftQ t ws).toNat j := by
    rw [Bool.eq_iff_iff, among_iff, among_iff]
    constructor
    · rintro ⟨i, h1, h2, h3⟩; exact ⟨i, by omega, h2, h3⟩
    · rintro ⟨i, h1, h2, h3⟩; exact ⟨i, by omega, h2, h3⟩
  rw [this]

theorem port_one {Q R : Nat → Int} {n l k : Nat} (hk : k < n) (hl : ¬ k < l) {v : Int} (hv : v = Q (sortAt n (cfP R) k)) : ∀ i, i < n → ∀ j, j < 1 → Dle (setF (rowF iE (portP Q R n l k)) (sortAt n (cfP R) k) 0 [.val (.int .i64 v)] i j) (rowF iE (portP Q R n l (k + 1)) i j) := by
  subst hv
  have h := (RowIs.refl iE 1 (portP Q R n l k)).set (k := sortAt n (cfP R) k) (x := Q (sortAt n (cfP R) k)) (ds := [.val (.int .i64 (Q (sortAt n (cfP R) k)))]) rfl fun j hj => by
    obtain rfl : j = 0 := by omega
    exact Dle.refl _
  have e := portP_set Q R n l k hk
  rw [if_neg hl, Int.add_zero] at e
  rw [e] at h
  intro i hi j hj
  exact h.le i (by rw [portP_len]; exact hi) j hj
theorem port_two {Q R : Nat → Int} {n l k : Nat} (hk : k < n) (hl : k < l) {v u : Int} (hu : u = Q (sortAt n (cfP R) k) + 1) : ∀ i, i < n → ∀ j, j < 1 → Dle (setF (setF (rowF iE (portP Q R n l k)) (sortAt n (cfP R) k) 0 [.val (.int .i64 v)]) (sortAt n (cfP R) k) 0 [.val (.int .i64 u)] i j) (rowF iE (portP Q R n l (k + 1)) i j) := by
  subst hu
  have h := ((RowIs.refl iE 1 (portP Q R n l k)).set (k := sortAt n (cfP R) k) (x := v) (ds := [.val (.int .i64 v)]) rfl fun j hj => by
    obtain rfl : j = 0 := by omega
    exact Dle.refl _).set (k := sortAt n (cfP R) k) (x := Q (sortAt n (cfP R) k) + 1) (ds := [.val (.int .i64 (Q (sortAt n (cfP R) k) + 1))]) rfl fun j hj => by
    obtain rfl : j = 0 := by omega
    exact Dle.refl _
  have e := portP_set Q R n l k hk
  rw [if_pos hl] at e
  rw [List.set_set, e] at h
  intro i hi j hj
  exact h.le i (by rw [portP_len]; exact hi) j hj
theorem share_t (t : Int) (ws : List Int) (hw : wOk ws) (hn : ws.length ≤ 1000) (ht : 0 ≤ t ∧ t ≤ 1000000000000) (h0 : ws = [] → t = 0) : ACalls XX 96 [iA t, .dat (iD ws)] (.tup [.dat (iD (shareL t ws)), iA 0]) := by
  have h1 := check_t t ws hw hn ht h0
  have h2 := sumOf_t ws hw hn
  have hs0 := sum_nonneg hw
  have hs1 := sum_le hw
  have hlr := left_rng hw ht.1 h0
  obtain ⟨Q, hQ⟩ : ∃ Q, Q = shQ t ws := ⟨_, rfl⟩
  obtain ⟨R, hR⟩ : ∃ R, R = shR t ws := ⟨_, rfl⟩
  have hQr : ∀ k, k < ws.length → 0 ≤ Q k ∧ Q k ≤ t := fun k hk => by rw [hQ]; exact shQ_rng hw ht.1 hk
  have hRr : ∀ k, k < ws.length → 0 ≤ R k ∧ R k < ws.sum := fun k hk => by rw [hR]; exact shR_rng hw hk
  have hsq : ∀ k, k ≤ ws.length → 0 ≤ sumQ t ws k ∧ sumQ t ws k ≤ 1000000000000 * k := by
    intro k
    induction k with
    | zero => intro _; simp [sumQ]
    | succ k ih =>
      intro hk
      have := ih (by omega)
      have := hQr k (by omega)
      rw [sumQ_succ]
      rw [hQ] at this
      push_cast
      omega
  have hfull : portP Q R ws.length (leftQ t ws).toNat ws.length = shareL t ws := by rw [hQ, hR]; exact portP_full t ws
  have hso := rsort_h Q R ws.length hn
  have hS := cfP_swo R
  rw [← hfull]
  refine ACalls.of (n := Tryz.f96.ntmps) XX_ok Tryz.func96 rfl (by kernel_rfl) rfl rfl (Nat.le_of_ble_eq_true rfl) ?_
  (repeat' (first | refine Zs ?_ | refine Zk ?_ | ((first | refine Za ?_ | refine Zr ?_ | refine Zp ?_ | refine Ze ?_ | refine Zd ?_ | refine Zn ?_ | refine Zc ?_ | refine UnK.mk (fun b hb => ?_) | refine Zy h1 ?_ | refine Zy h2 ?_); conv => whnf) | (refine Zb (fun h => ?_) (fun h => ?_) <;> first | exact Zx | (conv => whnf))))
  all_goals (try dsimp only [Int.toNat_natCast] at *)
  · refine (W.loopK (ι := Nat) [0, 1, 7, 8, 10, 36, 37] [] (fun k => [(38, iA k), (9, iA (t - sumQ t ws k))]) (fun k => [(35, .row 159 3 ws.length (poR Q R k))]) (fun k => k ≤ ws.length) (fun k => ws.length - k) 0 (Nat.zero_le _) ?_ ?_ ?_)
    · (repeat' (first | exact trivial | exact Yr | exact Yi (by first | rfl | (simp [sumQ]; done) | omega) | exact Yo (by first | rfl | (simp [sumQ]; done) | omega) | exact Yd | exact Yn | exact Ye (by first | rfl | (simp [sumQ]; done) | omega) | exact ⟨_, rfl, Yf, rfl⟩ | refine ⟨_, rfl, Yb ?_, rfl⟩ | refine ⟨_, rfl, Yw (by first | rfl | (simp [sumQ]; done) | omega) ?_, rfl⟩ | refine And.intro ?_ ?_))
    · (repeat' (first | exact trivial | exact Yr | exact Yi (by first | rfl | omega) | exact Yo (by first | rfl | omega) | exact Yd | exact Yn | exact Ye (by first | rfl | omega) | exact ⟨_, rfl, Yf, rfl⟩ | refine ⟨_, rfl, Yb ?_, rfl⟩ | refine ⟨_, rfl, Yw (by first | rfl | omega) ?_, rfl⟩ | refine And.intro ?_ ?_))
      intro i hi j hj
      rcases j with _ | _ | _ | j
      · show Dle _ (.val (.int .i64 (if i < 0 then (i : Int) else 0)))
        rw [if_neg (by omega)]; exact Dle.refl _
      · show Dle _ (.val (.int .u64 (if i < 0 then Q i else 0)))
        rw [if_neg (by omega)]; exact Dle.refl _
      · show Dle _ (.val (.int .u64 (if i < 0 then R i else 0)))
        rw [if_neg (by omega)]; exact Dle.refl _
      · omega
    conv => whnf
    intro k hk
    by_cases hk' : k < ws.length
    · first
      | (exfalso; omega)
      | (have hx := hw _ (getD_in hk')
         have hqk := hQr k hk'
         have hrk := hRr k hk'
         have hsk := hsq k hk
         have hsk1 : sumQ t ws (k + 1) = sumQ t ws k + Q k := by rw [hQ]; exact sumQ_succ t ws k
         have eQ : t * ws.getD k default / ws.sum = Q k := by rw [hQ]; rfl
         have eR : t * ws.getD k default % ws.sum = R k := by rw [hR]; rfl
         have hM := mulDiv_t t (ws.getD k default) ws.sum (by omega) (by omega) (by omega) (by rw [eQ]; omega)
         have hMM := mulMod_t t (ws.getD k default) ws.sum (by omega) (by omega) (by omega)
         rw [eQ] at hM
         rw [eR] at hMM
         (repeat' (first | refine Zs ?_ | refine Zk ?_ | ((first | refine Za ?_ | refine Zr ?_ | refine Zp ?_ | refine Ze ?_ | refine Zd ?_ | refine Zn ?_ | refine Zc ?_ | refine UnK.mk (fun b hb => ?_)); conv => whnf) | (refine Zb (fun h => ?_) (fun h => ?_) <;> first | exact Zx | (conv => whnf))))
         all_goals (try dsimp only [Int.toNat_natCast] at *)
         (repeat' (first | refine Zs ?_ | refine Zk ?_ | ((first | refine Za ?_ | refine Zr ?_ | refine Zp ?_ | refine Ze ?_ | refine Zd ?_ | refine Zn ?_ | refine Zc ?_ | refine UnK.mk (fun b hb => ?_) | refine Zy hM ?_ | refine Zy hMM ?_); conv => whnf) | (refine Zb (fun h => ?_) (fun h => ?_) <;> first | exact Zx | (conv => whnf))))
         refine ⟨k + 1, by omega, by omega, ?_, ?_, ?_, ?_⟩
         all_goals (repeat' (first | exact trivial | exact Yr | exact Yi (by first | rfl | omega) | exact Yo (by first | rfl | omega) | exact Yd | exact Yn | exact Ye (by first | rfl | omega) | exact ⟨_, rfl, Yf, rfl⟩ | refine ⟨_, rfl, Yb ?_, rfl⟩ | refine ⟨_, rfl, Yw (by first | rfl | omega) ?_, rfl⟩ | refine And.intro ?_ ?_))
         simp only [Nat.zero_add, Int.toNat_natCast]
         exact poR_set Q R ws.length k)
    obtain rfl : k = ws.length := by omega
    (repeat' (first | refine Zs ?_ | refine Zk ?_ | ((first | refine Za ?_ | refine Zr ?_ | refine Zp ?_ | refine Ze ?_ | refine Zd ?_ | refine Zn ?_ | refine Zc ?_ | refine UnK.mk (fun b hb => ?_)); conv => whnf) | (refine Zb (fun h => ?_) (fun h => ?_) <;> first | exact Zx | (conv => whnf))))
    refine ExCall.byH (hso.ren [(5000, 35)] rfl) ⟨AVle.refl _, AVle.refl _, trivial⟩ ⟨⟨_, rfl, EntLe.row rfl (poR_full Q R ws.length), rfl⟩, trivial⟩ ?_
    conv => whnf
    (repeat' (first | refine Zs ?_ | refine Zk ?_ | ((first | refine Za ?_ | refine Zr ?_ | refine Zp ?_ | refine Ze ?_ | refine Zd ?_ | refine Zn ?_ | refine Zc ?_ | refine UnK.mk (fun b hb => ?_)); conv => whnf) | (refine Zb (fun h => ?_) (fun h => ?_) <;> first | exact Zx | (conv => whnf))))
    all_goals (try dsimp only [Int.toNat_natCast] at *)
    refine (W.loopK (ι := Nat) [9, 16, 79, 80] [35] (fun k => [(81, iA k)]) (fun k => [(78, .row 3 1 ws.length (rowF iE (portP Q R ws.length (leftQ t ws).toNat k)))]) (fun k => k ≤ ws.length) (fun k => ws.length - k) 0 (Nat.zero_le _) ?_ ?_ ?_)
    · exact Yz
    · (repeat' (first | exact trivial | exact Yr | exact Yi (by first | rfl | omega) | exact Yo (by first | rfl | omega) | exact Yd | exact Yn | exact Ye (by first | rfl | omega) | exact ⟨_, rfl, Yf, rfl⟩ | refine ⟨_, rfl, Yb ?_, rfl⟩ | refine ⟨_, rfl, Yw (by first | rfl | omega) ?_, rfl⟩ | refine And.intro ?_ ?_))
      intro i hi j hj
      obtain rfl : j = 0 := by omega
      have e : (portP Q R ws.length (leftQ t ws).toNat 0).getD i default = 0 := portP_zero Q R ws.length (leftQ t ws).toNat i
      show Dle _ (.val (.int .i64 ((portP Q R ws.length (leftQ t ws).toNat 0).getD i default)))
      rw [e]
      exact Dle.refl _
    conv => whnf
    intro k hk
    have hlq : t - sumQ t ws ws.length = leftQ t ws := rfl
    by_cases hk' : k < ws.length
    · first
      | (exfalso; omega)
      | (have hs := sortAt_lt hS hk'
         have hqs := hQr _ hs
         (repeat' (first | refine Zs ?_ | refine Zk ?_ | ((first | refine Za ?_ | refine Zr ?_ | refine Zp ?_ | refine Ze ?_ | refine Zd ?_ | refine Zn ?_ | refine Zc ?_ | refine UnK.mk (fun b hb => ?_)); conv => whnf) | (refine Zb (fun h => ?_) (fun h => ?_) <;> first | exact Zx | (conv => whnf))))
         all_goals (try dsimp only [Int.toNat_natCast] at *)
         rw [Nat.zero_add k]
         (repeat' (first | refine Zs ?_ | refine Zk ?_ | ((first | refine Za ?_ | refine Zr ?_ | refine Zp ?_ | refine Ze ?_ | refine Zd ?_ | refine Zn ?_ | refine Zc ?_ | refine UnK.mk (fun b hb => ?_)); conv => whnf) | (refine Zb (fun h => ?_) (fun h => ?_) <;> first | exact Zx | (conv => whnf))))
         · refine NumK.as (Q (sortAt ws.length (cfP R) k) + 1) ?_ ?_
           · rw [if_pos ⟨rfl, Nat.le_refl _, Nat.zero_lt_succ _⟩]
             exact wrapOk (by omega)
           conv => whnf
           (repeat' (first | refine Zs ?_ | refine Zk ?_ | ((first | refine Za ?_ | refine Zr ?_ | refine Zp ?_ | refine Ze ?_ | refine Zd ?_ | refine Zn ?_ | refine Zc ?_ | refine UnK.mk (fun b hb => ?_)); conv => whnf) | (refine Zb (fun h => ?_) (fun h => ?_) <;> first | exact Zx | (conv => whnf))))
           refine ⟨k + 1, by omega, by omega, ?_, ?_, ?_, ?_⟩
           all_goals (repeat' (first | exact trivial | exact Yr | exact Yi (by first | rfl | omega) | exact Yo (by first | rfl | omega) | exact Yd | exact Yn | exact Ye (by first | rfl | omega) | exact ⟨_, rfl, Yf, rfl⟩ | refine ⟨_, rfl, Yb ?_, rfl⟩ | refine ⟨_, rfl, Yw (by first | rfl | omega) ?_, rfl⟩ | refine And.intro ?_ ?_))
           simp only [Nat.zero_add, Int.toNat_natCast]
           exact port_two hk' (by omega) rfl
         · refine ⟨k + 1, by omega, by omega, ?_, ?_, ?_, ?_⟩
           all_goals (repeat' (first | exact trivial | exact Yr | exact Yi (by first | rfl | omega) | exact Yo (by first | rfl | omega) | exact Yd | exact Yn | exact Ye (by first | rfl | omega) | exact ⟨_, rfl, Yf, rfl⟩ | refine ⟨_, rfl, Yb ?_, rfl⟩ | refine ⟨_, rfl, Yw (by first | rfl | omega) ?_, rfl⟩ | refine And.intro ?_ ?_))
           simp only [Nat.zero_add, Int.toNat_natCast]
           exact port_one hk' (by omega) rfl)
    · obtain rfl : k = ws.length := by omega
      have hl : ws.length = (portP Q R ws.length (leftQ t ws).toNat ws.length).length := (portP_len _ _ _ _ _).symm
      (repeat' (first | refine Zs ?_ | refine Zk ?_ | ((first | refine Za ?_ | refine Zr ?_ | refine Zp ?_ | refine Ze ?_ | refine Zd ?_ | refine Zn ?_ | refine Zc ?_ | refine UnK.mk (fun b hb => ?_)); conv => whnf) | (refine Zb (fun h => ?_) (fun h => ?_) <;> first | exact Zx | (conv => whnf))))
      conv => whnf
      refine ⟨RowIs.res rfl ⟨hl, fun _ _ _ _ => Dle.refl _⟩ rfl, ?_⟩
      all_goals exact Zrz
  · refine (W.loopK (ι := Nat) [0, 1, 7, 8, 10, 36, 37] [] (fun k => [(38, iA k), (9, iA (t - sumQ t ws k))]) (fun k => [(35, .row 159 3 ws.length (poR Q R k))]) (fun k => k ≤ ws.length) (fun k => ws.length - k) 0 (Nat.zero_le _) ?_ ?_ ?_)
    · (repeat' (first | exact trivial | exact Yr | exact Yi (by first | rfl | (simp [sumQ]; done) | omega) | exact Yo (by first | rfl | (simp [sumQ]; done) | omega) | exact Yd | exact Yn | exact Ye (by first | rfl | (simp [sumQ]; done) | omega) | exact ⟨_, rfl, Yf, rfl⟩ | refine ⟨_, rfl, Yb ?_, rfl⟩ | refine ⟨_, rfl, Yw (by first | rfl | (simp [sumQ]; done) | omega) ?_, rfl⟩ | refine And.intro ?_ ?_))
    · (repeat' (first | exact trivial | exact Yr | exact Yi (by first | rfl | omega) | exact Yo (by first | rfl | omega) | exact Yd | exact Yn | exact Ye (by first | rfl | omega) | exact ⟨_, rfl, Yf, rfl⟩ | refine ⟨_, rfl, Yb ?_, rfl⟩ | refine ⟨_, rfl, Yw (by first | rfl | omega) ?_, rfl⟩ | refine And.intro ?_ ?_))
      intro i hi j hj
      rcases j with _ | _ | _ | j
      · show Dle _ (.val (.int .i64 (if i < 0 then (i : Int) else 0)))
        rw [if_neg (by omega)]; exact Dle.refl _
      · show Dle _ (.val (.int .u64 (if i < 0 then Q i else 0)))
        rw [if_neg (by omega)]; exact Dle.refl _
      · show Dle _ (.val (.int .u64 (if i < 0 then R i else 0)))
        rw [if_neg (by omega)]; exact Dle.refl _
      · omega
    conv => whnf
    intro k hk
    by_cases hk' : k < ws.length
    · first
      | (exfalso; omega)
      | (have hx := hw _ (getD_in hk')
         have hqk := hQr k hk'
         have hrk := hRr k hk'
         have hsk := hsq k hk
         have hsk1 : sumQ t ws (k + 1) = sumQ t ws k + Q k := by rw [hQ]; exact sumQ_succ t ws k
         have eQ : t * ws.getD k default / ws.sum = Q k := by rw [hQ]; rfl
         have eR : t * ws.getD k default % ws.sum = R k := by rw [hR]; rfl
         have hM := mulDiv_t t (ws.getD k default) ws.sum (by omega) (by omega) (by omega) (by rw [eQ]; omega)
         have hMM := mulMod_t t (ws.getD k default) ws.sum (by omega) (by omega) (by omega)
         rw [eQ] at hM
         rw [eR] at hMM
         (repeat' (first | refine Zs ?_ | refine Zk ?_ | ((first | refine Za ?_ | refine Zr ?_ | refine Zp ?_ | refine Ze ?_ | refine Zd ?_ | refine Zn ?_ | refine Zc ?_ | refine UnK.mk (fun b hb => ?_)); conv => whnf) | (refine Zb (fun h => ?_) (fun h => ?_) <;> first | exact Zx | (conv => whnf))))
         all_goals (try dsimp only [Int.toNat_natCast] at *)
         (repeat' (first | refine Zs ?_ | refine Zk ?_ | ((first | refine Za ?_ | refine Zr ?_ | refine Zp ?_ | refine Ze ?_ | refine Zd ?_ | refine Zn ?_ | refine Zc ?_ | refine UnK.mk (fun b hb => ?_) | refine Zy hM ?_ | refine Zy hMM ?_); conv => whnf) | (refine Zb (fun h => ?_) (fun h => ?_) <;> first | exact Zx | (conv => whnf))))
         refine ⟨k + 1, by omega, by omega, ?_, ?_, ?_, ?_⟩
         all_goals (repeat' (first | exact trivial | exact Yr | exact Yi (by first | rfl | omega) | exact Yo (by first | rfl | omega) | exact Yd | exact Yn | exact Ye (by first | rfl | omega) | exact ⟨_, rfl, Yf, rfl⟩ | refine ⟨_, rfl, Yb ?_, rfl⟩ | refine ⟨_, rfl, Yw (by first | rfl | omega) ?_, rfl⟩ | refine And.intro ?_ ?_))
         simp only [Nat.zero_add, Int.toNat_natCast]
         exact poR_set Q R ws.length k)
    obtain rfl : k = ws.length := by omega
    (repeat' (first | refine Zs ?_ | refine Zk ?_ | ((first | refine Za ?_ | refine Zr ?_ | refine Zp ?_ | refine Ze ?_ | refine Zd ?_ | refine Zn ?_ | refine Zc ?_ | refine UnK.mk (fun b hb => ?_)); conv => whnf) | (refine Zb (fun h => ?_) (fun h => ?_) <;> first | exact Zx | (conv => whnf))))
    refine ExCall.byH (hso.ren [(5000, 35)] rfl) ⟨AVle.refl _, AVle.refl _, trivial⟩ ⟨⟨_, rfl, EntLe.row rfl (poR_full Q R ws.length), rfl⟩, trivial⟩ ?_
    conv => whnf
    (repeat' (first | refine Zs ?_ | refine Zk ?_ | ((first | refine Za ?_ | refine Zr ?_ | refine Zp ?_ | refine Ze ?_ | refine Zd ?_ | refine Zn ?_ | refine Zc ?_ | refine UnK.mk (fun b hb => ?_)); conv => whnf) | (refine Zb (fun h => ?_) (fun h => ?_) <;> first | exact Zx | (conv => whnf))))
    all_goals (try dsimp only [Int.toNat_natCast] at *)
    refine (W.loopK (ι := Nat) [9, 16, 79, 80] [35] (fun k => [(81, iA k)]) (fun k => [(78, .row 3 1 ws.length (rowF iE (portP Q R ws.length (leftQ t ws).toNat k)))]) (fun k => k ≤ ws.length) (fun k => ws.length - k) 0 (Nat.zero_le _) ?_ ?_ ?_)
    · exact Yz
    · (repeat' (first | exact trivial | exact Yr | exact Yi (by first | rfl | omega) | exact Yo (by first | rfl | omega) | exact Yd | exact Yn | exact Ye (by first | rfl | omega) | exact ⟨_, rfl, Yf, rfl⟩ | refine ⟨_, rfl, Yb ?_, rfl⟩ | refine ⟨_, rfl, Yw (by first | rfl | omega) ?_, rfl⟩ | refine And.intro ?_ ?_))
      intro i hi j hj
      obtain rfl : j = 0 := by omega
      have e : (portP Q R ws.length (leftQ t ws).toNat 0).getD i default = 0 := portP_zero Q R ws.length (leftQ t ws).toNat i
      show Dle _ (.val (.int .i64 ((portP Q R ws.length (leftQ t ws).toNat 0).getD i default)))
      rw [e]
      exact Dle.refl _
    conv => whnf
    intro k hk
    have hlq : t - sumQ t ws ws.length = leftQ t ws := rfl
    by_cases hk' : k < ws.length
    · first
      | (exfalso; omega)
      | (have hs := sortAt_lt hS hk'
         have hqs := hQr _ hs
         (repeat' (first | refine Zs ?_ | refine Zk ?_ | ((first | refine Za ?_ | refine Zr ?_ | refine Zp ?_ | refine Ze ?_ | refine Zd ?_ | refine Zn ?_ | refine Zc ?_ | refine UnK.mk (fun b hb => ?_)); conv => whnf) | (refine Zb (fun h => ?_) (fun h => ?_) <;> first | exact Zx | (conv => whnf))))
         all_goals (try dsimp only [Int.toNat_natCast] at *)
         rw [Nat.zero_add k]
         (repeat' (first | refine Zs ?_ | refine Zk ?_ | ((first | refine Za ?_ | refine Zr ?_ | refine Zp ?_ | refine Ze ?_ | refine Zd ?_ | refine Zn ?_ | refine Zc ?_ | refine UnK.mk (fun b hb => ?_)); conv => whnf) | (refine Zb (fun h => ?_) (fun h => ?_) <;> first | exact Zx | (conv => whnf))))
         · refine NumK.as (Q (sortAt ws.length (cfP R) k) + 1) ?_ ?_
           · rw [if_pos ⟨rfl, Nat.le_refl _, Nat.zero_lt_succ _⟩]
             exact wrapOk (by omega)
           conv => whnf
           (repeat' (first | refine Zs ?_ | refine Zk ?_ | ((first | refine Za ?_ | refine Zr ?_ | refine Zp ?_ | refine Ze ?_ | refine Zd ?_ | refine Zn ?_ | refine Zc ?_ | refine UnK.mk (fun b hb => ?_)); conv => whnf) | (refine Zb (fun h => ?_) (fun h => ?_) <;> first | exact Zx | (conv => whnf))))
           refine ⟨k + 1, by omega, by omega, ?_, ?_, ?_, ?_⟩
           all_goals (repeat' (first | exact trivial | exact Yr | exact Yi (by first | rfl | omega) | exact Yo (by first | rfl | omega) | exact Yd | exact Yn | exact Ye (by first | rfl | omega) | exact ⟨_, rfl, Yf, rfl⟩ | refine ⟨_, rfl, Yb ?_, rfl⟩ | refine ⟨_, rfl, Yw (by first | rfl | omega) ?_, rfl⟩ | refine And.intro ?_ ?_))
           simp only [Nat.zero_add, Int.toNat_natCast]
           exact port_two hk' (by omega) rfl
         · refine ⟨k + 1, by omega, by omega, ?_, ?_, ?_, ?_⟩
           all_goals (repeat' (first | exact trivial | exact Yr | exact Yi (by first | rfl | omega) | exact Yo (by first | rfl | omega) | exact Yd | exact Yn | exact Ye (by first | rfl | omega) | exact ⟨_, rfl, Yf, rfl⟩ | refine ⟨_, rfl, Yb ?_, rfl⟩ | refine ⟨_, rfl, Yw (by first | rfl | omega) ?_, rfl⟩ | refine And.intro ?_ ?_))
           simp only [Nat.zero_add, Int.toNat_natCast]
           exact port_one hk' (by omega) rfl)
    · obtain rfl : k = ws.length := by omega
      have hl : ws.length = (portP Q R ws.length (leftQ t ws).toNat ws.length).length := (portP_len _ _ _ _ _).symm
      (repeat' (first | refine Zs ?_ | refine Zk ?_ | ((first | refine Za ?_ | refine Zr ?_ | refine Zp ?_ | refine Ze ?_ | refine Zd ?_ | refine Zn ?_ | refine Zc ?_ | refine UnK.mk (fun b hb => ?_)); conv => whnf) | (refine Zb (fun h => ?_) (fun h => ?_) <;> first | exact Zx | (conv => whnf))))
      conv => whnf
      refine ⟨RowIs.res rfl ⟨hl, fun _ _ _ _ => Dle.refl _⟩ rfl, ?_⟩
      all_goals exact Zrz

end Go.Proofs.YtojkeidijdcfoaaGreatDoor
