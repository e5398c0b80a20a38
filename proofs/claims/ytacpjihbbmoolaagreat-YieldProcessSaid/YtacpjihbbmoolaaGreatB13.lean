/- Units taken in proportion; the law that each unit is either taken or left. -/
import Derived.Test.YtacpjihbbmoolaaGreatGB
import Derived.Test.YtacpjihbbmoolaaGreatB12
namespace Go.Proofs.YtacpjihbbmoolaaGreat
open Go Go.RowKit
set_option linter.unusedVariables false
set_option linter.unusedSimpArgs false
set_option maxRecDepth 100000
set_option maxHeartbeats 4000000
attribute [local irreducible] ResLe AVle ArgLe ArgP EntLe Dle ResH ArgQ

theorem divA3 (us : List Sl) (u : Int) : divA 3 us u = cutA us (shareL u (lensL us)) := by unfold divA ksM; rw [if_neg (by decide), if_pos rfl]
theorem divB3 (us : List Sl) (u : Int) : divB 3 us u = cutB us (shareL u (lensL us)) := by unfold divB ksM; rw [if_neg (by decide), if_pos rfl]
end Go.Proofs.YtacpjihbbmoolaaGreat
