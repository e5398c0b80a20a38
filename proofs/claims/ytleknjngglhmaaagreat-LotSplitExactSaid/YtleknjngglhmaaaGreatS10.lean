/- Slices made from numbers; the law of Duty. -/
import Derived.Test.YtleknjngglhmaaaGreatS7
namespace Go.Proofs.YtleknjngglhmaaaGreat
open Go Go.RowKit
set_option linter.unusedVariables false
set_option linter.unusedSimpArgs false
set_option maxRecDepth 100000
set_option maxHeartbeats 4000000
attribute [local irreducible] ResLe AVle ArgLe ArgP EntLe Dle ResH ArgQ

structure MS where
  i : Nat
  e0 : Int
  e1 : Int
  e2 : Int
  e3 : Int
  us : List Sl
def msE (s : MS) (m : Int) : Int := if m = 0 then s.e0 else if m = 1 then s.e1 else if m = 2 then s.e2 else s.e3
structure MsI (L : List Int) (s : MS) : Prop where
  i : s.i ≤ L.length
  len : s.us.length ≤ 20
  e0 : 0 ≤ s.e0 ∧ s.e0 ≤ 17 * s.us.length
  e1 : 0 ≤ s.e1 ∧ s.e1 ≤ 17 * s.us.length
  e2 : 0 ≤ s.e2 ∧ s.e2 ≤ 17 * s.us.length
  e3 : 0 ≤ s.e3 ∧ s.e3 ≤ 17 * s.us.length
structure MsV (s : MS) : Prop where
  ok : ∀ x ∈ s.us, slOk x ∧ x.m ≤ 4 ∧ x.e ≤ msE s (x.m - 1)
  nm : ¬ anyMeet s.us
end Go.Proofs.YtleknjngglhmaaaGreat
