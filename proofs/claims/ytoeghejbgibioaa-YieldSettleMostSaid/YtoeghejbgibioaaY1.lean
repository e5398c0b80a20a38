/- Yields: needs, recipes, what is in range. -/
import Derived.Test.YtoeghejbgibioaaW0
namespace Go.Proofs.Ytoeghejbgibioaa
open Go Go.RowKit
set_option linter.unusedVariables false
set_option linter.unusedSimpArgs false
set_option maxRecDepth 100000
set_option maxHeartbeats 4000000
attribute [local irreducible] ResLe AVle ArgLe ArgP EntLe Dle ResH ArgQ strEq strLt

theorem ygetD_in {α : Type} [Inhabited α] {us : List α} {k : Nat} (h : k < us.length) : us.getD k default ∈ us := by
  rw [List.getD_eq_getElem?_getD, List.getElem?_eq_getElem h]; exact List.getElem_mem _
structure Nd where
  c : ByteArray
  q : Int
instance : Inhabited Nd := ⟨⟨⟨#[]⟩, 0⟩⟩
def ndE (x : Nd) (j : Nat) : D := match j with
  | 0 => .val (.string x.c)
  | _ => .val (.int .i64 x.q)
abbrev ndD (us : List Nd) : D := .lst 2 us.length (rowF ndE us)
structure Rc where
  id : Int
  ins : List Nd
  outs : List Nd
  sc : List Int
instance : Inhabited Rc := ⟨⟨0, [], [], []⟩⟩
abbrev rcA (x : Rc) : AV := .agg [iA x.id, .dat (ndD x.ins), .dat (ndD x.outs), .dat (iD x.sc)]
def rcE (x : Rc) (j : Nat) : D := match j with
  | 0 => .val (.int .i64 x.id)
  | 1 => ndD x.ins
  | 2 => ndD x.outs
  | _ => iD x.sc
abbrev rcD (rs : List Rc) : D := .lst 4 rs.length (rowF rcE rs)
abbrev sY (c : ByteArray) : AV := .dat (.val (.string c))
abbrev ndA (x : Nd) : AV := .agg [sY x.c, iA x.q]
def cOk (c : ByteArray) : Prop := c.size = 8 ∧ ∀ i, i < 8 → 48 ≤ byteAt c i ∧ byteAt c i ≤ 57
noncomputable instance (c : ByteArray) : Decidable (cOk c) := Classical.propDecidable _
theorem yvalidID_t (n : Int) : ACalls XX 51 [iA n] (bA (decide (1 ≤ n ∧ n ≤ 1000000))) := by
  refine ACalls.of (n := Try.f51.ntmps) XX_ok Try.func51 rfl (by kernel_rfl) rfl rfl (Nat.le_of_ble_eq_true rfl) ?_
  (repeat' (first | refine Zs ?_ | refine Zk ?_ | ((first | refine Za ?_ | refine Zr ?_ | refine Zp ?_ | refine Ze ?_ | refine Zd ?_ | refine Zn ?_ | refine Zc ?_ | refine UnK.mk (fun b hb => ?_)); conv => whnf) | (refine Zb (fun h => ?_) (fun h => ?_) <;> first | exact Zx | (conv => whnf))))
  all_goals (repeat' (first | exact trivial | exact Zm | exact Zl | exact ResLe.row0 rfl | exact Zi (by omega) | exact Zo (h := by omega) | exact ResLe.bo rfl rfl Iff.rfl | refine ResLe.agg ?_ | refine And.intro ?_ ?_ | ((conv => whnf); first | exact Zl | exact ResLe.row0 rfl | exact Zi (by omega) | exact Zo (h := by omega) | exact ResLe.bo rfl rfl Iff.rfl | refine ResLe.agg ?_ | refine And.intro ?_ ?_)))
theorem yvalidCode_t (c : ByteArray) : ACalls XX 35 [sY c] (bA (decide (cOk c))) := by
  refine ACalls.of (n := Try.f35.ntmps) XX_ok Try.func35 rfl (by kernel_rfl) rfl rfl (Nat.le_of_ble_eq_true rfl) ?_
  (repeat' (first | refine Zs ?_ | refine Zk ?_ | ((first | refine Za ?_ | refine Zr ?_ | refine Zp ?_ | refine Ze ?_ | refine Zd ?_ | refine Zn ?_ | refine Zc ?_ | refine UnK.mk (fun b hb => ?_)); conv => whnf) | (refine Zb (fun h => ?_) (fun h => ?_) <;> first | exact Zx | (conv => whnf))))
  · (repeat' (first | exact trivial | exact Zm | exact Zl | exact ResLe.row0 rfl | exact Zi (by unfold cOk; omega) | exact Zo (h := by unfold cOk; omega) | exact ResLe.bo rfl rfl Iff.rfl | refine ResLe.agg ?_ | refine And.intro ?_ ?_ | ((conv => whnf); first | exact Zl | exact ResLe.row0 rfl | exact Zi (by unfold cOk; omega) | exact Zo (h := by unfold cOk; omega) | exact ResLe.bo rfl rfl Iff.rfl | refine ResLe.agg ?_ | refine And.intro ?_ ?_)))
  have hs : c.size = 8 := by omega
  refine (W.loopK (ι := Nat) [0, 8] [] (fun k => [(9, iA k)]) (fun _ => []) (fun k => k ≤ 8 ∧ ∀ i, i < k → 48 ≤ byteAt c i ∧ byteAt c i ≤ 57) (fun k => 8 - k) 0 ⟨Nat.zero_le _, fun i hi => absurd hi (by omega)⟩ ?_ ?_ ?_)
  · exact Yz
  · exact Yz
  conv => whnf
  intro k ⟨hk, hz⟩
  (repeat' (first | refine Zs ?_ | refine Zk ?_ | ((first | refine Za ?_ | refine Zr ?_ | refine Zp ?_ | refine Ze ?_ | refine Zd ?_ | refine Zn ?_ | refine Zc ?_ | refine UnK.mk (fun b hb => ?_)); conv => whnf) | (refine Zb (fun h => ?_) (fun h => ?_) <;> first | exact Zx | (conv => whnf))))
  all_goals (try dsimp only [Int.toNat_natCast] at *)
  (repeat' (first | refine Zs ?_ | refine Zk ?_ | ((first | refine Za ?_ | refine Zr ?_ | refine Zp ?_ | refine Ze ?_ | refine Zd ?_ | refine Zn ?_ | refine Zc ?_ | refine UnK.mk (fun b hb => ?_)); conv => whnf) | (refine Zb (fun h => ?_) (fun h => ?_) <;> first | exact Zx | (conv => whnf))))
  all_goals first | (have hn : ¬ cOk c := fun hc => (by have := hc.2 k (by omega); omega)); (repeat' (first | exact trivial | exact Zm | exact Zl | exact ResLe.row0 rfl | exact Zi (by simp [hn]) | exact Zo (h := by simp [hn]) | exact ResLe.bo rfl rfl Iff.rfl | refine ResLe.agg ?_ | refine And.intro ?_ ?_ | ((conv => whnf); first | exact Zl | exact ResLe.row0 rfl | exact Zi (by simp [hn]) | exact Zo (h := by simp [hn]) | exact ResLe.bo rfl rfl Iff.rfl | refine ResLe.agg ?_ | refine And.intro ?_ ?_))); done | skip
  all_goals first | (have hn : cOk c := ⟨hs, fun i hi => hz i (by omega)⟩); (repeat' (first | exact trivial | exact Zm | exact Zl | exact ResLe.row0 rfl | exact Zi (by simp [hn]) | exact Zo (h := by simp [hn]) | exact ResLe.bo rfl rfl Iff.rfl | refine ResLe.agg ?_ | refine And.intro ?_ ?_ | ((conv => whnf); first | exact Zl | exact ResLe.row0 rfl | exact Zi (by simp [hn]) | exact Zo (h := by simp [hn]) | exact ResLe.bo rfl rfl Iff.rfl | refine ResLe.agg ?_ | refine And.intro ?_ ?_))); done | skip
  all_goals (refine ⟨k + 1, ⟨by omega, fun i hi => ?_⟩, by omega, ?_, ?_, ?_, ?_⟩)
  all_goals first | exact Yz | skip
  all_goals (by_cases hik : i = k
             · subst hik; omega
             · exact hz i (by omega))
theorem ycode8_t (c : ByteArray) (hc : c.size ≤ 9223372036854775807) : ACalls XX 42 [sY c] (bA (decide (cOk c))) := by
  refine ACalls.of (n := Try.f42.ntmps) XX_ok Try.func42 rfl (by kernel_rfl) rfl rfl (Nat.le_of_ble_eq_true rfl) ?_
  (repeat' (first | refine Zs ?_ | refine Zk ?_ | ((first | refine Za ?_ | refine Zr ?_ | refine Zp ?_ | refine Ze ?_ | refine Zd ?_ | refine Zn ?_ | refine Zc ?_ | refine UnK.mk (fun b hb => ?_)); conv => whnf) | (refine Zb (fun h => ?_) (fun h => ?_) <;> first | exact Zx | (conv => whnf))))
  refine (W.loopK (ι := Nat) [0] [] (fun k => [(3, iA k)]) (fun _ => []) (fun k => k ≤ c.size ∧ ∀ i, i < k → 48 ≤ byteAt c i ∧ byteAt c i ≤ 57) (fun k => c.size - k) 0 ⟨Nat.zero_le _, fun i hi => absurd hi (by omega)⟩ ?_ ?_ ?_)
  · exact Yz
  · exact Yz
  conv => whnf
  intro k ⟨hk, hz⟩
  by_cases hk' : k < c.size
  · (repeat' (first | refine Zs ?_ | refine Zk ?_ | ((first | refine Za ?_ | refine Zr ?_ | refine Zp ?_ | refine Ze ?_ | refine Zd ?_ | refine Zn ?_ | refine Zc ?_ | refine UnK.mk (fun b hb => ?_)); conv => whnf) | (refine Zb (fun h => ?_) (fun h => ?_) <;> first | exact Zx | (conv => whnf))))
    all_goals (try dsimp only [Int.toNat_natCast] at *)
    (repeat' (first | refine Zs ?_ | refine Zk ?_ | ((first | refine Za ?_ | refine Zr ?_ | refine Zp ?_ | refine Ze ?_ | refine Zd ?_ | refine Zn ?_ | refine Zc ?_ | refine UnK.mk (fun b hb => ?_)); conv => whnf) | (refine Zb (fun h => ?_) (fun h => ?_) <;> first | exact Zx | (conv => whnf))))
    all_goals first | (have hn : ¬ cOk c := fun hc => (by have := hc.2 k (by have := hc.1; omega); omega)); (repeat' (first | exact trivial | exact Zm | exact Zl | exact ResLe.row0 rfl | exact Zi (by simp [hn]) | exact Zo (h := by simp [hn]) | exact ResLe.bo rfl rfl Iff.rfl | refine ResLe.agg ?_ | refine And.intro ?_ ?_ | ((conv => whnf); first | exact Zl | exact ResLe.row0 rfl | exact Zi (by simp [hn]) | exact Zo (h := by simp [hn]) | exact ResLe.bo rfl rfl Iff.rfl | refine ResLe.agg ?_ | refine And.intro ?_ ?_))); done | skip
    refine ⟨k + 1, ⟨by omega, fun i hi => ?_⟩, by omega, ?_, ?_, ?_, ?_⟩
    · by_cases hik : i = k
      · subst hik; omega
      · exact hz i (by omega)
    all_goals exact Yz
  · have e : cOk c ↔ c.size = 8 := ⟨fun h => h.1, fun h => ⟨h, fun i hi => hz i (by omega)⟩⟩
    (repeat' (first | refine Zs ?_ | refine Zk ?_ | ((first | refine Za ?_ | refine Zr ?_ | refine Zp ?_ | refine Ze ?_ | refine Zd ?_ | refine Zn ?_ | refine Zc ?_ | refine UnK.mk (fun b hb => ?_)); conv => whnf) | (refine Zb (fun h => ?_) (fun h => ?_) <;> first | exact Zx | (conv => whnf))))
    all_goals (repeat' (first | exact trivial | exact Zm | exact Zl | exact ResLe.row0 rfl | exact Zi (by rw [e]; omega) | exact Zo (h := by rw [e]; omega) | exact ResLe.bo rfl rfl Iff.rfl | refine ResLe.agg ?_ | refine And.intro ?_ ?_ | ((conv => whnf); first | exact Zl | exact ResLe.row0 rfl | exact Zi (by rw [e]; omega) | exact Zo (h := by rw [e]; omega) | exact ResLe.bo rfl rfl Iff.rfl | refine ResLe.agg ?_ | refine And.intro ?_ ?_)))
def ascAt (us : List Nd) (lo hi : Int) (i : Nat) : Prop := cOk (us.getD i default).c ∧ lo ≤ (us.getD i default).q ∧ (us.getD i default).q ≤ hi ∧ (0 < i → strLt (us.getD i default).c (us.getD (i - 1) default).c = false ∧ strEq (us.getD i default).c (us.getD (i - 1) default).c = false)
def ascOk (us : List Nd) (lo hi : Int) : Prop := ∀ i, i < us.length → ascAt us lo hi i
noncomputable instance (us : List Nd) (lo hi : Int) : Decidable (ascOk us lo hi) := Classical.propDecidable _
theorem yasc_t (us : List Nd) (lo hi : Int) (hL : us.length ≤ 9223372036854775807) : ACalls XX 32 [.dat (ndD us), iA lo, iA hi] (bA (decide (ascOk us lo hi))) := by
  refine ACalls.of (n := Try.f32.ntmps) XX_ok Try.func32 rfl (by kernel_rfl) rfl rfl (Nat.le_of_ble_eq_true rfl) ?_
  (repeat' (first | refine Zs ?_ | refine Zk ?_ | ((first | refine Za ?_ | refine Zr ?_ | refine Zp ?_ | refine Ze ?_ | refine Zd ?_ | refine W.drawT dr32 rfl mixed rfl ?_ | refine Zn ?_ | refine Zc ?_ | refine UnK.mk (fun b hb => ?_)); conv => whnf) | (refine Zb (fun h => ?_) (fun h => ?_) <;> first | exact Zx | (conv => whnf))))
  refine (W.loopK (ι := Nat) [0, 1, 2, 9, 10] [] (fun k => [(11, iA k)]) (fun _ => []) (fun k => k ≤ us.length ∧ ∀ i, i < k → ascAt us lo hi i) (fun k => us.length - k) 0 ⟨Nat.zero_le _, fun i hi => absurd hi (by omega)⟩ ?_ ?_ ?_)
  · exact Yz
  · exact Yz
  conv => whnf
  intro k ⟨hk, hz⟩
  have h2 := yvalidCode_t (us.getD k default).c
  (repeat' (first | refine Zs ?_ | refine Zk ?_ | ((first | refine Za ?_ | refine Zr ?_ | refine Zp ?_ | refine Ze ?_ | refine Zd ?_ | refine W.drawT dr32 rfl mixed rfl ?_ | refine Zn ?_ | refine Zc ?_ | refine UnK.mk (fun b hb => ?_)); conv => whnf) | (refine Zb (fun h => ?_) (fun h => ?_) <;> first | exact Zx | (conv => whnf))))
  all_goals (try dsimp only [Int.toNat_natCast] at *)
  (repeat' (first | refine Zs ?_ | refine Zk ?_ | ((first | refine Za ?_ | refine Zr ?_ | refine Zp ?_ | refine Ze ?_ | refine Zd ?_ | refine W.drawT dr32 rfl mixed rfl ?_ | refine Zn ?_ | refine Zc ?_ | refine UnK.mk (fun b hb => ?_) | refine Zy h2 ?_ | refine Zz h2 ?_); conv => whnf) | (refine Zb (fun h => ?_) (fun h => ?_) <;> first | exact Zx | (conv => whnf))))
  all_goals (try dsimp only [Int.toNat_natCast] at *)
  all_goals (have e : ((k : Int) - 1).toNat = k - 1 := by omega)
  all_goals (try rw [e] at h)
  all_goals first | (have hn : ¬ ascOk us lo hi := fun hc => (by
      obtain ⟨q1, q2, q3, q4⟩ := hc k (by omega)
      first | omega | exact h q1 | (obtain ⟨q5, q6⟩ := q4 (by omega); rcases h with h | h <;> simp_all))); (repeat' (first | exact trivial | exact Zm | exact Zl | exact ResLe.row0 rfl | exact Zi (by simp [hn]) | exact Zo (h := by simp [hn]) | exact ResLe.bo rfl rfl Iff.rfl | refine ResLe.agg ?_ | refine And.intro ?_ ?_ | ((conv => whnf); first | exact Zl | exact ResLe.row0 rfl | exact Zi (by simp [hn]) | exact Zo (h := by simp [hn]) | exact ResLe.bo rfl rfl Iff.rfl | refine ResLe.agg ?_ | refine And.intro ?_ ?_))); done | skip
  all_goals first | (have hn : ascOk us lo hi := fun i hi => hz i (by omega)); (repeat' (first | exact trivial | exact Zm | exact Zl | exact ResLe.row0 rfl | exact Zi (by simp [hn]) | exact Zo (h := by simp [hn]) | exact ResLe.bo rfl rfl Iff.rfl | refine ResLe.agg ?_ | refine And.intro ?_ ?_ | ((conv => whnf); first | exact Zl | exact ResLe.row0 rfl | exact Zi (by simp [hn]) | exact Zo (h := by simp [hn]) | exact ResLe.bo rfl rfl Iff.rfl | refine ResLe.agg ?_ | refine And.intro ?_ ?_))); done | skip
  all_goals (refine ⟨k + 1, ⟨by omega, fun i hi => ?_⟩, by omega, ?_, ?_, ?_, ?_⟩)
  all_goals first | exact Yz | skip
  all_goals (by_cases hik : i = k
             · subst hik; exact ⟨by assumption, by assumption, by assumption, fun _ => by first | omega | assumption⟩
             · exact hz i (by omega))
def ndsOk (us : List Nd) : Prop := ascOk us 1 1000000000 ∧ 1 ≤ us.length ∧ us.length ≤ 8
noncomputable instance (us : List Nd) : Decidable (ndsOk us) := Classical.propDecidable _
theorem yneeds_t (us : List Nd) (hL : us.length ≤ 9223372036854775807) (hc : ∀ x ∈ us, x.c.size ≤ 9223372036854775807) : ACalls XX 52 [.dat (ndD us)] (bA (decide (ndsOk us))) := by
  refine ACalls.of (n := Try.f52.ntmps) XX_ok Try.func52 rfl (by kernel_rfl) rfl rfl (Nat.le_of_ble_eq_true rfl) ?_
  (repeat' (first | refine Zs ?_ | refine Zk ?_ | ((first | refine Za ?_ | refine Zr ?_ | refine Zp ?_ | refine Ze ?_ | refine Zd ?_ | refine W.drawT dr52 rfl mixed rfl ?_ | refine Zn ?_ | refine Zc ?_ | refine UnK.mk (fun b hb => ?_)); conv => whnf) | (refine Zb (fun h => ?_) (fun h => ?_) <;> first | exact Zx | (conv => whnf))))
  refine (W.loopK (ι := Nat) [0] [] (fun k => [(3, iA k)]) (fun _ => []) (fun k => k ≤ us.length ∧ ∀ i, i < k → ascAt us 1 1000000000 i) (fun k => us.length - k) 0 ⟨Nat.zero_le _, fun i hi => absurd hi (by omega)⟩ ?_ ?_ ?_)
  · exact Yz
  · exact Yz
  conv => whnf
  intro k ⟨hk, hz⟩
  by_cases hk' : k < us.length
  · have h2 := ycode8_t (us.getD k default).c (hc _ (ygetD_in hk'))
    (repeat' (first | refine Zs ?_ | refine Zk ?_ | ((first | refine Za ?_ | refine Zr ?_ | refine Zp ?_ | refine Ze ?_ | refine Zd ?_ | refine W.drawT dr52 rfl mixed rfl ?_ | refine Zn ?_ | refine Zc ?_ | refine UnK.mk (fun b hb => ?_)); conv => whnf) | (refine Zb (fun h => ?_) (fun h => ?_) <;> first | exact Zx | (conv => whnf))))
    all_goals (try dsimp only [Int.toNat_natCast] at *)
    (repeat' (first | refine Zs ?_ | refine Zk ?_ | ((first | refine Za ?_ | refine Zr ?_ | refine Zp ?_ | refine Ze ?_ | refine Zd ?_ | refine W.drawT dr52 rfl mixed rfl ?_ | refine Zn ?_ | refine Zc ?_ | refine UnK.mk (fun b hb => ?_) | refine Zy h2 ?_ | refine Zz h2 ?_); conv => whnf) | (refine Zb (fun h => ?_) (fun h => ?_) <;> first | exact Zx | (conv => whnf))))
    all_goals (try dsimp only [Int.toNat_natCast] at *)
    all_goals (have e : ((k : Int) - 1).toNat = k - 1 := by omega)
    all_goals (try rw [e] at h)
    all_goals first | (have hn : ¬ ascOk us 1 1000000000 := fun hc => (by
        obtain ⟨q1, q2, q3, q4⟩ := hc k (by omega)
        first | omega | exact h q1 | (obtain ⟨q5, q6⟩ := q4 (by omega); rcases h with h | h <;> simp_all))); (repeat' (first | exact trivial | exact Zm | exact Zl | exact ResLe.row0 rfl | exact Zi (by simp [hn, ndsOk]) | exact Zo (h := by simp [hn, ndsOk]) | exact ResLe.bo rfl rfl Iff.rfl | refine ResLe.agg ?_ | refine And.intro ?_ ?_ | ((conv => whnf); first | exact Zl | exact ResLe.row0 rfl | exact Zi (by simp [hn, ndsOk]) | exact Zo (h := by simp [hn, ndsOk]) | exact ResLe.bo rfl rfl Iff.rfl | refine ResLe.agg ?_ | refine And.intro ?_ ?_))); done | skip
    all_goals (refine ⟨k + 1, ⟨by omega, fun i hi => ?_⟩, by omega, ?_, ?_, ?_, ?_⟩)
    all_goals first | exact Yz | skip
    all_goals (by_cases hik : i = k
               · subst hik; exact ⟨by assumption, by assumption, by assumption, fun _ => by first | omega | assumption⟩
               · exact hz i (by omega))
  · have hn : ascOk us 1 1000000000 := fun i hi => hz i (by omega)
    (repeat' (first | refine Zs ?_ | refine Zk ?_ | ((first | refine Za ?_ | refine Zr ?_ | refine Zp ?_ | refine Ze ?_ | refine Zd ?_ | refine W.drawT dr52 rfl mixed rfl ?_ | refine Zn ?_ | refine Zc ?_ | refine UnK.mk (fun b hb => ?_)); conv => whnf) | (refine Zb (fun h => ?_) (fun h => ?_) <;> first | exact Zx | (conv => whnf))))
    all_goals first | (exfalso; omega) | skip
    all_goals (repeat' (first | exact trivial | exact Zm | exact Zl | exact ResLe.row0 rfl | exact Zi (by simp [hn, ndsOk]; omega) | exact Zo (h := by simp [hn, ndsOk]; omega) | exact ResLe.bo rfl rfl Iff.rfl | refine ResLe.agg ?_ | refine And.intro ?_ ?_ | ((conv => whnf); first | exact Zl | exact ResLe.row0 rfl | exact Zi (by simp [hn, ndsOk]; omega) | exact Zo (h := by simp [hn, ndsOk]; omega) | exact ResLe.bo rfl rfl Iff.rfl | refine ResLe.agg ?_ | refine And.intro ?_ ?_)))
end Go.Proofs.Ytoeghejbgibioaa
