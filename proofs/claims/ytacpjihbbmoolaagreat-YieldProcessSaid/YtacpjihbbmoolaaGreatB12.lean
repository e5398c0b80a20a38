/- Shares by the largest remainder (the package apportion); units taken in proportion. -/
import Derived.Test.YtacpjihbbmoolaaGreatB2
namespace Go.Proofs.YtacpjihbbmoolaaGreat
open Go Go.RowKit
set_option linter.unusedVariables false
set_option linter.unusedSimpArgs false
set_option maxRecDepth 100000
set_option maxHeartbeats 4000000
attribute [local irreducible] ResLe AVle ArgLe ArgP EntLe Dle ResH ArgQ

end Go.Proofs.YtacpjihbbmoolaaGreat
