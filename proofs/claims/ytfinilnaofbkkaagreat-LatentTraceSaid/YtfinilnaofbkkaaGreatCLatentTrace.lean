/- For all made stocks the pieces of a source in the lots are all its units, each once, and the law answers true. No condition. -/
import Derived.Test.YtfinilnaofbkkaaGreatRows
import Derived.Test.YtfinilnaofbkkaaGreatPost
import Derived.Test.YtfinilnaofbkkaaGreatOpL
import Derived.Test.YtfinilnaofbkkaaGreatL9
import Derived.WalkKit
import Derived.ProofKit
import Derived.OpenShut
namespace Go.Proofs.YtfinilnaofbkkaaGreat
open Go.ChangeShapes Go.WideShapes Go.ChangeAt Go.RowKit Go.ChangeMaps
set_option linter.unusedVariables false

theorem own_LatentTrace : ownKnob Tryz.prog.godebug = none := by kernel_rfl

set_option maxRecDepth 100000 in
theorem lifted_LatentTrace (os : Os) (started : os.Started) (H : Type) (enc : TypeId × Value → H) :
    ReturnsInHanded {} Tryz.checked os 4 .any (Rows.latentTraceSpec.pre6 enc Tryz.prog Tryz.f4 Rows.latentTraceRow.domain false) (Rows.latentTraceSpec.post enc Tryz.prog Tryz.f4 false true false false) := by
  refine returnsInHanded_of_change (C := Tryz.checked) own_LatentTrace started (by kernel_rfl) Tryz.func4
    (ChangeSpec.witness6 (enc := enc) (C := Tryz.checked) false ⟨#[], #[.slice none 0 0], []⟩ 8 (by kernel_rfl) (by kernel_rfl) (by kernel_rfl) (by kernel_rfl)) ?_
  intro W base args ds gs before hval0 hW hcnd _
  have hval : ∀ (j : Nat) t v, Tryz.f4.params[j]? = some t → args[j]? = some v → Value.okWide Tryz.prog W .any base t v := hval0
  have hW' := hW
  obtain ⟨p, q, hA0, hV, rfl, hfz, hnd⟩ := hW
  have hA : DataW.TrodAll enc Tryz.prog W 0 (fun _ => true) true Tryz.f4.params.toList args.toList ds p := hA0
  have hA1 := hA
  rw [Tryz.params4] at hA hval
  obtain ⟨v0, vs0, d0, ds0, p0, q0, hargs, rfl, rfl, h0, r0_⟩ := trodAll_cons hA
  obtain ⟨rfl, rfl, rfl⟩ := trodAll_nil r0_
  obtain rfl : args = #[v0] := by cases args; simp_all
  obtain ⟨rfl, rfl⟩ := trodVars_none hV
  obtain ⟨x0, D0, k0⟩ := op_intl (hval 0 22 v0 rfl rfl) h0
  refine (law_run (lawTrace_t x0 k0) W [v0] ⟨D0, trivial⟩).mono fun e W' ⟨he, hg⟩ => ?_
  subst he
  exact ⟨_, rfl, law_post laid_ (by kernel_rfl) Tryz.underlying4 rfl hW' hA1 (by simp) rfl rfl rfl hg⟩

theorem over_LatentTrace : Rows.latentTraceRow.holds Tryz.pinned (OpenSpec.ofChange Rows.latentTraceSpec) :=
  OpenClaim.holds_of_wide 4 Tryz.f4 rfl rfl rfl rfl rfl rfl rfl ⟨rfl, rfl, rfl, rfl, rfl⟩ rfl rfl rfl rfl rfl (by kernel_rfl) Tryz.func4 (by kernel_rfl)
    (of_decide_eq_true (by kernel_rfl)) (by unfold Func.isWrapper; first | (rw [if_pos (by decide +kernel)]; kernel_rfl) | (rw [if_neg (by decide +kernel)]; exact ⟨rfl, rfl⟩))
    (fun os started H enc _ => lifted_LatentTrace os started H enc)

/-- The statement. -/
theorem latentTrace_holds : Rows.LatentTraceSaid :=
  over_LatentTrace
end Go.Proofs.YtfinilnaofbkkaaGreat
