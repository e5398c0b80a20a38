/- Stocks: sources covered, lots presented, split. -/
import Derived.Test.YtacpjihbbmoolaaGreatB5
namespace Go.Proofs.YtacpjihbbmoolaaGreat
open Go Go.RowKit
set_option linter.unusedVariables false
set_option linter.unusedSimpArgs false
set_option maxRecDepth 100000
set_option maxHeartbeats 4000000
attribute [local irreducible] ResLe AVle ArgLe ArgP EntLe Dle ResH ArgQ

structure StkOk (ss : List Lt) : Prop where
  len : ss.length ≤ 64
  us : ∀ x ∈ ss, x.us.length ≤ 64
  ok : ∀ x ∈ ss, ltOk x
  jn : ∀ x ∈ ss, (joinL x.us).length = x.us.length
  asc : ascI ss
  rep : ¬ reps ss
theorem stkErr_ok {ss : List Lt} (h : stkErr ss = 0) : StkOk ss := by
  unfold stkErr at h
  split at h
  · contradiction
  rename_i h1
  split at h
  · contradiction
  rename_i h2
  split at h
  · contradiction
  rename_i h3
  split at h
  · contradiction
  rename_i h4
  split at h
  · contradiction
  rename_i h5
  split at h
  · contradiction
  rename_i h6
  exact ⟨by omega, fun x hx => by
    rcases Nat.lt_or_ge 64 x.us.length with h | h
    · exact absurd ⟨x, hx, h⟩ h2
    · exact h, Decidable.not_not.1 h3, fun x hx => by
    by_cases h : (joinL x.us).length = x.us.length
    · exact h
    · exact absurd ⟨x, hx, h⟩ h4, Decidable.not_not.1 h5, h6⟩
def ofS (us : List Sl) (src : Int) : List Sl := us.filter fun s => decide (s.m = src)
def covL (ss : List Lt) (src : Int) : List Sl := ofS (here ss).flatten src
def covP (ss : List Lt) (src u : Int) : Prop := (∀ s ∈ covL ss src, s.e ≤ u) ∧ cnt (covL ss src) = u
noncomputable instance (ss : List Lt) (src u : Int) : Decidable (covP ss src u) := Classical.propDecidable _
end Go.Proofs.YtacpjihbbmoolaaGreat
