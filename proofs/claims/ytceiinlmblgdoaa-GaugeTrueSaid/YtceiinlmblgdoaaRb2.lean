import Derived.Test.YtceiinlmblgdoaaRb
import Derived.Test.YtceiinlmblgdoaaG
set_option linter.unusedSimpArgs false
set_option linter.unusedVariables false
namespace Go.Proofs
open Go.RowKit
end Go.Proofs
