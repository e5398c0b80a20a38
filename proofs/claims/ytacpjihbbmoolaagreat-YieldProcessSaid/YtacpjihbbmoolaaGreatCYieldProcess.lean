/- For all stocks, recipes, numbers of batches and IDs, given or made, Process answers what the reference answers, and the law answers true. No condition. -/
import Derived.Test.YtacpjihbbmoolaaGreatRows
import Derived.Test.YtacpjihbbmoolaaGreatPost
import Derived.Test.YtacpjihbbmoolaaGreatOpX
import Derived.Test.YtacpjihbbmoolaaGreatPX
import Derived.WalkKit
import Derived.ProofKit
import Derived.OpenShut
namespace Go.Proofs.YtacpjihbbmoolaaGreat
open Go.ChangeShapes Go.WideShapes Go.ChangeAt Go.RowKit Go.ChangeMaps
set_option linter.unusedVariables false

theorem own_YieldProcess : ownKnob Tryz.prog.godebug = none := by kernel_rfl

set_option maxRecDepth 100000 in
theorem lifted_YieldProcess (os : Os) (started : os.Started) (H : Type) (enc : TypeId × Value → H) :
    ReturnsInHanded {} Tryz.checked os 3 .any (Rows.yieldProcessSpec.pre6 enc Tryz.prog Tryz.f3 Rows.yieldProcessRow.domain false) (Rows.yieldProcessSpec.post enc Tryz.prog Tryz.f3 false true false false) := by
  refine returnsInHanded_of_change (C := Tryz.checked) own_YieldProcess started (by kernel_rfl) Tryz.func3
    (ChangeSpec.witness6 (enc := enc) (C := Tryz.checked) false ⟨#[], #[.slice none 0 0, .slice none 0 0, .slice none 0 0, .agg #[.int .i64 0, .slice none 0 0, .slice none 0 0, .slice none 0 0], .int .i64 0, .slice none 0 0, .slice none 0 0, .int .i64 0], []⟩ 8 (by kernel_rfl) (by kernel_rfl) (by kernel_rfl) (by kernel_rfl)) ?_
  intro W base args ds gs before hval0 hW hcnd _
  have hval : ∀ (j : Nat) t v, Tryz.f3.params[j]? = some t → args[j]? = some v → Value.okWide Tryz.prog W .any base t v := hval0
  have hW' := hW
  obtain ⟨p, q, hA0, hV, rfl, hfz, hnd⟩ := hW
  have hA : DataW.TrodAll enc Tryz.prog W 0 (fun _ => true) true Tryz.f3.params.toList args.toList ds p := hA0
  have hA1 := hA
  rw [Tryz.params3] at hA hval
  obtain ⟨v0, vs0, d0, ds0, p0, q0, hargs, rfl, rfl, h0, r0_⟩ := trodAll_cons hA
  obtain ⟨v1, vs1, d1, ds1, p1, q1, rfl, rfl, rfl, h1, r1_⟩ := trodAll_cons r0_
  obtain ⟨v2, vs2, d2, ds2, p2, q2, rfl, rfl, rfl, h2, r2_⟩ := trodAll_cons r1_
  obtain ⟨v3, vs3, d3, ds3, p3, q3, rfl, rfl, rfl, h3, r3_⟩ := trodAll_cons r2_
  obtain ⟨v4, vs4, d4, ds4, p4, q4, rfl, rfl, rfl, h4, r4_⟩ := trodAll_cons r3_
  obtain ⟨v5, vs5, d5, ds5, p5, q5, rfl, rfl, rfl, h5, r5_⟩ := trodAll_cons r4_
  obtain ⟨v6, vs6, d6, ds6, p6, q6, rfl, rfl, rfl, h6, r6_⟩ := trodAll_cons r5_
  obtain ⟨v7, vs7, d7, ds7, p7, q7, rfl, rfl, rfl, h7, r7_⟩ := trodAll_cons r6_
  obtain ⟨rfl, rfl, rfl⟩ := trodAll_nil r7_
  obtain rfl : args = #[v0, v1, v2, v3, v4, v5, v6, v7] := by cases args; simp_all
  obtain ⟨rfl, rfl⟩ := trodVars_none hV
  obtain ⟨x0, D0, k0⟩ := op_intl (hval 0 22 v0 rfl rfl) h0
  obtain ⟨x1, D1, k1⟩ := op_intl (hval 1 22 v1 rfl rfl) h1
  obtain ⟨x2, D2, k2⟩ := op_lots (hval 2 23 v2 rfl rfl) h2
  obtain ⟨x3, D3, k3⟩ := op_recipe (hval 3 26 v3 rfl rfl) h3
  obtain ⟨a4, rfl, _, _, w4⟩ := open_int Tryz.underlying3 (hval 4 3 v4 rfl rfl) h4
  obtain ⟨x5, D5, k5⟩ := op_intl (hval 5 22 v5 rfl rfl) h5
  obtain ⟨x6, D6, k6⟩ := op_intl (hval 6 22 v6 rfl rfl) h6
  obtain ⟨a7, rfl, _, _, w7⟩ := open_int Tryz.underlying3 (hval 7 3 v7 rfl rfl) h7
  refine (law_run (lawProcess_t x0 x1 x2 x3 a4 x5 x6 a7 k0 k1 ⟨by have := k2.1; unfold maxLen at this; simp only; omega, fun x hx => by have := (k2.2 x hx).1; unfold maxLen at this; omega, by have := k3.1; unfold maxLen at this; simp only; omega, by have := k3.2.1; unfold maxLen at this; simp only; omega, k3.2.2.1, fun y hy => by have := k3.2.2.2.1 y hy; unfold maxLen at this; omega, fun y hy => by have := k3.2.2.2.2 y hy; unfold maxLen at this; omega, k5, k6⟩) W [v0, v1, v2, v3, .int .i64 a4, v5, v6, .int .i64 a7] ⟨D0, D1, D2, D3, parI _ _ _, D5, D6, parI _ _ _, trivial⟩).mono fun e W' ⟨he, hg⟩ => ?_
  subst he
  exact ⟨_, rfl, law_post laid_ (by kernel_rfl) Tryz.underlying4 rfl hW' hA1 (by simp) rfl rfl rfl hg⟩

theorem over_YieldProcess : Rows.yieldProcessRow.holds Tryz.pinned (OpenSpec.ofChange Rows.yieldProcessSpec) :=
  OpenClaim.holds_of_wide 3 Tryz.f3 rfl rfl rfl rfl rfl rfl rfl ⟨rfl, rfl, rfl, rfl, rfl⟩ rfl rfl rfl rfl rfl (by kernel_rfl) Tryz.func3 (by kernel_rfl)
    (of_decide_eq_true (by kernel_rfl)) (by unfold Func.isWrapper; first | (rw [if_pos (by decide +kernel)]; kernel_rfl) | (rw [if_neg (by decide +kernel)]; exact ⟨rfl, rfl⟩))
    (fun os started H enc _ => lifted_YieldProcess os started H enc)

/-- The statement. -/
theorem yieldProcess_holds : Rows.YieldProcessSaid :=
  over_YieldProcess
end Go.Proofs.YtacpjihbbmoolaaGreat
