/- For all lists of recipes, given or made, all codes and quantities, Explode answers what the reference answers, and the law answers true. No condition. -/
import Derived.Test.YtoeghejbgibioaaRows
import Derived.Test.YtoeghejbgibioaaPost
import Derived.Test.YtoeghejbgibioaaOpY
import Derived.Test.YtoeghejbgibioaaE8
import Derived.WalkKit
import Derived.ProofKit
import Derived.OpenShut
namespace Go.Proofs.Ytoeghejbgibioaa
open Go.ChangeShapes Go.WideShapes Go.ChangeAt Go.RowKit Go.ChangeMaps
set_option linter.unusedVariables false

theorem own_YieldExplode : ownKnob Try.prog.godebug = none := by kernel_rfl

set_option maxRecDepth 100000 in
theorem lifted_YieldExplode (os : Os) (started : os.Started) (H : Type) (enc : TypeId × Value → H) :
    ReturnsInHanded {} Try.checked os 4 .any (Rows.yieldExplodeSpec.pre6 enc Try.prog Try.f4 Rows.yieldExplodeRow.domain false) (Rows.yieldExplodeSpec.post enc Try.prog Try.f4 false true false false) := by
  refine returnsInHanded_of_change (C := Try.checked) own_YieldExplode started (by kernel_rfl) Try.func4
    (ChangeSpec.witness6 (enc := enc) (C := Try.checked) false ⟨#[], #[.slice none 0 0, .slice none 0 0, .string ⟨#[]⟩, .int .i64 0, .bool false], []⟩ 8 (by kernel_rfl) (by kernel_rfl) (by kernel_rfl) (by kernel_rfl)) ?_
  intro W base args ds gs before hval0 hW hcnd _
  have hval : ∀ (j : Nat) t v, Try.f4.params[j]? = some t → args[j]? = some v → Value.okWide Try.prog W .any base t v := hval0
  have hW' := hW
  obtain ⟨p, q, hA0, hV, rfl, hfz, hnd⟩ := hW
  have hA : DataW.TrodAll enc Try.prog W 0 (fun _ => true) true Try.f4.params.toList args.toList ds p := hA0
  have hA1 := hA
  rw [Try.params4] at hA hval
  obtain ⟨v0, vs0, d0, ds0, p0, q0, hargs, rfl, rfl, h0, r0_⟩ := trodAll_cons hA
  obtain ⟨v1, vs1, d1, ds1, p1, q1, rfl, rfl, rfl, h1, r1_⟩ := trodAll_cons r0_
  obtain ⟨v2, vs2, d2, ds2, p2, q2, rfl, rfl, rfl, h2, r2_⟩ := trodAll_cons r1_
  obtain ⟨v3, vs3, d3, ds3, p3, q3, rfl, rfl, rfl, h3, r3_⟩ := trodAll_cons r2_
  obtain ⟨v4, vs4, d4, ds4, p4, q4, rfl, rfl, rfl, h4, r4_⟩ := trodAll_cons r3_
  obtain ⟨rfl, rfl, rfl⟩ := trodAll_nil r4_
  obtain rfl : args = #[v0, v1, v2, v3, v4] := by cases args; simp_all
  obtain ⟨rfl, rfl⟩ := trodVars_none hV
  obtain ⟨x0, D0, k0⟩ := op_intl (hval 0 22 v0 rfl rfl) h0
  obtain ⟨x1, D1, k1⟩ := op_recipes (hval 1 36 v1 rfl rfl) h1
  obtain ⟨s2, rfl, _, _, n2⟩ := open_string Try.underlying9 (hval 2 9 v2 rfl rfl) h2
  obtain ⟨a3, rfl, _, _, w3⟩ := open_int Try.underlying3 (hval 3 3 v3 rfl rfl) h3
  obtain ⟨b4, rfl, _, _⟩ := open_bool Try.underlying4 (hval 4 4 v4 rfl rfl) h4
  refine (law_run (lawExplode_t x0 x1 s2 a3 b4 k0 (by have := k1.1; unfold maxLen at this; omega) (fun r hr => by obtain ⟨q1, q2, q3, q4, q5⟩ := k1.2 r hr; unfold maxLen at q1 q2 q4 q5; exact ⟨by omega, by omega, q3, fun y hy => by have := q4 y hy; omega, fun y hy => by have := q5 y hy; omega⟩) (by unfold maxLen at n2; omega)) W [v0, v1, .string s2, .int .i64 a3, .bool b4] ⟨D0, D1, parS _ _, parI _ _ _, parB _ _, trivial⟩).mono fun e W' ⟨he, hg⟩ => ?_
  subst he
  exact ⟨_, rfl, law_post laid_ (by kernel_rfl) Try.underlying4 rfl hW' hA1 (by simp) rfl rfl rfl hg⟩

theorem over_YieldExplode : Rows.yieldExplodeRow.holds Try.pinned (OpenSpec.ofChange Rows.yieldExplodeSpec) :=
  OpenClaim.holds_of_wide 4 Try.f4 rfl rfl rfl rfl rfl rfl rfl ⟨rfl, rfl, rfl, rfl, rfl⟩ rfl rfl rfl rfl rfl (by kernel_rfl) Try.func4 (by kernel_rfl)
    (of_decide_eq_true (by kernel_rfl)) (by unfold Func.isWrapper; first | (rw [if_pos (by decide +kernel)]; kernel_rfl) | (rw [if_neg (by decide +kernel)]; exact ⟨rfl, rfl⟩))
    (fun os started H enc _ => lifted_YieldExplode os started H enc)

/-- The statement. -/
theorem yieldExplode_holds : Rows.YieldExplodeSaid :=
  over_YieldExplode
end Go.Proofs.Ytoeghejbgibioaa
