/- Yields: needs in the order of their codes. -/
import Derived.Test.YtoeghejbgibioaaZ6
import Derived.Test.YtoeghejbgibioaaVt
import Derived.Test.YtoeghejbgibioaaLays
namespace Go.Proofs.Ytoeghejbgibioaa
open Go Go.RowKit Go.Sort
set_option linter.unusedVariables false
set_option linter.unusedSimpArgs false
set_option maxRecDepth 100000
set_option maxHeartbeats 4000000
attribute [local irreducible] ResLe AVle ArgLe ArgP EntLe Dle ResH ArgQ strEq strLt

theorem strEq_self (a : ByteArray) : strEq a a = true := (strEq_iff a a).2 rfl
theorem strLt_tot {a b : ByteArray} (h : a ≠ b) : strLt a b = true ∨ strLt b a = true := by
  cases h1 : strLt a b with
  | true => exact .inl rfl
  | false =>
    refine .inr (strLt_con h1 ?_)
    cases h2 : strEq a b with
    | false => rfl
    | true => exact absurd ((strEq_iff a b).1 h2) h
def cmpS (a b : ByteArray) : Int := if strLt a b = true then -1 else if strLt b a = true then 1 else 0
theorem cmpS_lt (a b : ByteArray) : cmpS a b < 0 ↔ strLt a b = true := by unfold cmpS; split <;> (try split) <;> simp_all
theorem isNaNs_d (a : ByteArray) : ACalls XD 57 [sY a] (bA false) := by
  have h := strEq_self a
  refine ACalls.of (n := Try.f57.ntmps) XD_ok Try.func57 rfl (by kernel_rfl) rfl rfl (Nat.le_of_ble_eq_true rfl) ?_
  (repeat' (first | refine Zs ?_ | refine Zk ?_ | ((first | refine Za ?_ | refine Zr ?_ | refine Zp ?_ | refine Ze ?_ | refine Zd ?_ | refine Zn ?_ | refine Zc ?_ | refine UnK.mk (fun b hb => ?_)); conv => whnf) | (refine Zb (fun h => ?_) (fun h => ?_) <;> first | exact Zx | (conv => whnf))))
  all_goals (repeat' (first | exact trivial | exact Zm | exact Zl | exact ResLe.row0 rfl | exact Zi (by simp [h]) | exact Zo (h := by simp [h]) | exact ResLe.bo rfl rfl Iff.rfl | refine ResLe.agg ?_ | refine And.intro ?_ ?_ | ((conv => whnf); first | exact Zl | exact ResLe.row0 rfl | exact Zi (by simp [h]) | exact Zo (h := by simp [h]) | exact ResLe.bo rfl rfl Iff.rfl | refine ResLe.agg ?_ | refine And.intro ?_ ?_)))
theorem cmps_d (a b : ByteArray) : ACalls XD 41 [sY a, sY b] (iA (cmpS a b)) := by
  have h0 := isNaNs_d
  have q1 : strLt a b = false → strEq a b = false → strLt b a = true := strLt_con
  have q2 : strEq a b = true → strLt b a = false := fun h => by rw [(strEq_iff a b).1 h]; exact strLt_irr _
  refine ACalls.of (n := Try.f41.ntmps) XD_ok Try.func41 rfl (by kernel_rfl) rfl rfl (Nat.le_of_ble_eq_true rfl) ?_
  (repeat' (first | refine Zs ?_ | refine Zk ?_ | ((first | refine Za ?_ | refine Zr ?_ | refine Zp ?_ | refine Ze ?_ | refine Zd ?_ | refine Zn ?_ | refine Zc ?_ | refine UnK.mk (fun b hb => ?_) | refine Zy (h0 _) ?_); conv => whnf) | (refine Zb (fun h => ?_) (fun h => ?_) <;> first | exact Zx | (conv => whnf))))
  all_goals (repeat' (first | exact trivial | exact Zm | exact Zl | exact ResLe.row0 rfl | exact Zi (by unfold cmpS; simp_all) | exact Zo (h := by unfold cmpS; simp_all) | exact ResLe.bo rfl rfl Iff.rfl | refine ResLe.agg ?_ | refine And.intro ?_ ?_ | ((conv => whnf); first | exact Zl | exact ResLe.row0 rfl | exact Zi (by unfold cmpS; simp_all) | exact Zo (h := by unfold cmpS; simp_all) | exact ResLe.bo rfl rfl Iff.rfl | refine ResLe.agg ?_ | refine And.intro ?_ ?_)))
theorem ycmp_d (x y : Nd) : ACalls XD 40 [ndA x, ndA y] (iA (cmpS x.c y.c)) := by
  refine ACalls.of (n := Try.f40.ntmps) XD_ok Try.func40 rfl (by kernel_rfl) rfl rfl (Nat.le_of_ble_eq_true rfl) ?_
  (repeat' (first | refine Zs ?_ | refine Zk ?_ | ((first | refine Za ?_ | refine Zr ?_ | refine Zp ?_ | refine Ze ?_ | refine Zd ?_ | refine Zn ?_ | refine Zc ?_ | refine UnK.mk (fun b hb => ?_) | refine Zy (cmps_d _ _) ?_); conv => whnf) | (refine Zb (fun h => ?_) (fun h => ?_) <;> first | exact Zx | (conv => whnf))))
  all_goals exact Zrz
def cfS (us : List Nd) (i j : Nat) : Int := cmpS (us.getD i default).c (us.getD j default).c
theorem cfS_swo (us : List Nd) : SWO (ltOf (cfS us)) := by
  have e : ∀ i j, ltOf (cfS us) i j = strLt (us.getD i default).c (us.getD j default).c := fun i j => by
    unfold ltOf cfS
    cases h : strLt (us.getD i default).c (us.getD j default).c with
    | true => exact decide_eq_true ((cmpS_lt _ _).2 h)
    | false => exact decide_eq_false (fun hh => by rw [(cmpS_lt _ _).1 hh] at h; cases h)
  refine ⟨fun x => ?_, fun x y z => ?_, fun x y z => ?_⟩ <;> simp only [e]
  · exact strLt_irr _
  · exact strLt_trans
  · intro h1 h2
    generalize (us.getD x default).c = a at *
    generalize (us.getD y default).c = b at *
    generalize (us.getD z default).c = c at *
    cases h3 : strLt a c with
    | false => rfl
    | true =>
      by_cases hab : a = b
      · subst hab; rw [h3] at h2; cases h2
      · rcases strLt_tot hab with h | h
        · rw [h] at h1; cases h1
        · have := strLt_trans h h3; rw [this] at h2; cases h2
def sortN (us : List Nd) : List Nd := (List.range us.length).map fun i => us.getD (sortAt us.length (cfS us) i) default
theorem sortN_len (us : List Nd) : (sortN us).length = us.length := by simp [sortN]
theorem sortN_h (us : List Nd) (hn : us.length ≤ 100000) :
    HC XX 39 [.own 5000 2 0 us.length, .dat (.val (.func (.func 40) #[] #[]))] [(5000, .row 31 2 us.length (rowF ndE us))] (.tup []) [(5000, .row 31 2 us.length fun i j => rowF ndE us (sortAt us.length (cfS us) i) j)] none :=
  sort_h (X := XX) (cf := cfS us) Try.sort39 rfl ⟨_, Try.func39, rfl, rfl⟩ Try.isAgg31 Try.sizeOf31
    (enters_of Try.func40 (by kernel_rfl) rfl) (cfS_swo us) (by omega) (by omega) (fun i j hi hj => ycmp_d (us.getD i default) (us.getD j default))
theorem yrange_getD {α : Type} [Inhabited α] (l : List α) : (List.range l.length).map (fun i => l.getD i default) = l := by
  apply List.ext_getElem?
  intro i
  by_cases h : i < l.length
  · simp [h]
  · simp [h]
theorem sortN_perm (us : List Nd) : (sortN us).Perm us := by
  have h := (sortAt_perm (n := us.length) (cfS_swo us)).map fun i => us.getD i default
  rw [List.map_map, yrange_getD] at h
  exact h
theorem sortN_le (us : List Nd) : (sortN us).Pairwise fun a b => strLt b.c a.c = false := by
  unfold sortN
  rw [List.pairwise_map]
  refine List.pairwise_iff_getElem.2 fun i j hi hj hij => ?_
  simp only [List.getElem_range, List.length_range] at hi hj ⊢
  have h : ¬ cmpS (us.getD (sortAt us.length (cfS us) j) default).c (us.getD (sortAt us.length (cfS us) i) default).c < 0 := sortAt_le (cfS_swo us) hij hj
  rw [cmpS_lt] at h
  simpa using h
theorem sortN_unique {us vs : List Nd} (hp : us.Perm vs) (hs : vs.Pairwise fun a b => strLt a.c b.c = true) : sortN us = vs := by
  have hle : vs.Pairwise fun a b => strLt b.c a.c = false := hs.imp fun {a b} h => by
    cases h1 : strLt b.c a.c with
    | false => rfl
    | true => have := strLt_trans h h1; rw [strLt_irr] at this; cases this
  refine List.Perm.eq_of_pairwise (le := fun a b : Nd => strLt b.c a.c = false) (fun a b ha hb h1 h2 => ?_) (sortN_le us) hle ((sortN_perm us).trans hp)
  have ha' : a ∈ vs := hp.mem_iff.1 ((sortN_perm us).mem_iff.1 ha)
  obtain ⟨i, hi, rfl⟩ := List.getElem_of_mem ha'
  obtain ⟨j, hj, rfl⟩ := List.getElem_of_mem hb
  have hq := List.pairwise_iff_getElem.1 hs
  rcases Nat.lt_trichotomy i j with h | h | h
  · have := hq i j hi hj h; rw [h2] at this; cases this
  · subst h; rfl
  · have := hq j i hj hi h; rw [h1] at this; cases this
end Go.Proofs.Ytoeghejbgibioaa
