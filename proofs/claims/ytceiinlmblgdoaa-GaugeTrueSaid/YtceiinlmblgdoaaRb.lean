import Derived.Test.YtceiinlmblgdoaaNa
import Derived.Test.YtceiinlmblgdoaaF
set_option linter.unusedSimpArgs false
set_option linter.unusedVariables false
namespace Go.Proofs
open Go.RowKit


theorem unl0 {b : Bool} {n : Int} (hn : (n == 0) = false) : (unl b n != 0) = !b := by
  unfold unl
  cases b <;> simp_all [bne]
theorem gaugingE_eq (s : List UInt8) (d lo hi : Int) :
    gaugingE s d lo hi = if nameB s = true then (if within d 0 100000 = true then rangeE lo hi 100000 else 2) else 4 := by
  unfold gaugingE rangeE
  cases nameB s <;> cases within d 0 100000 <;> cases within lo 0 100000 <;> cases within hi 0 100000 <;> simp [firstE, unl]

def netA (l : List Mv) : Prop := ∀ m ∈ l, 0 ≤ m.v ∧ m.v ≤ 100000
end Go.Proofs
