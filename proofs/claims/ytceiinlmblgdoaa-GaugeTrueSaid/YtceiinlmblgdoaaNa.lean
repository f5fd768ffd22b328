import Derived.Test.YtceiinlmblgdoaaE
import Derived.Test.YtceiinlmblgdoaaBk
set_option linter.unusedSimpArgs false
set_option linter.unusedVariables false
namespace Go.Proofs
open Go.RowKit
def rangeE (lo hi m : Int) : Int := firstE [unl (within lo 0 m && within hi 0 m) 2, unl (decide (lo ≤ hi)) 9]
end Go.Proofs
