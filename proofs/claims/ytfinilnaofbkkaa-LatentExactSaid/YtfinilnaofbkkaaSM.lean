/- The laws of portions. The reference's duty of a lot. The reference's duty of a lot, whole. -/
import Derived.Test.YtfinilnaofbkkaaSL
import Derived.Test.YtfinilnaofbkkaaRM
import Derived.Test.YtfinilnaofbkkaaS7

namespace Go.Proofs.Ytfinilnaofbkkaa
open Go Go.RowKit
set_option linter.unusedVariables false
set_option linter.unusedSimpArgs false
set_option maxRecDepth 100000
set_option maxHeartbeats 4000000
attribute [local irreducible] ResLe AVle ArgLe ArgP EntLe Dle ResH ArgQ

end Go.Proofs.Ytfinilnaofbkkaa

namespace Go.Proofs.Ytfinilnaofbkkaa
open Go Go.RowKit
set_option linter.unusedVariables false
set_option linter.unusedSimpArgs false
set_option maxRecDepth 100000
set_option maxHeartbeats 4000000
attribute [local irreducible] ResLe AVle ArgLe ArgP EntLe Dle ResH ArgQ

end Go.Proofs.Ytfinilnaofbkkaa

namespace Go.Proofs.Ytfinilnaofbkkaa
open Go Go.RowKit
set_option linter.unusedVariables false
set_option linter.unusedSimpArgs false
set_option maxRecDepth 100000
set_option maxHeartbeats 4000000
attribute [local irreducible] ResLe AVle ArgLe ArgP EntLe Dle ResH ArgQ

end Go.Proofs.Ytfinilnaofbkkaa
