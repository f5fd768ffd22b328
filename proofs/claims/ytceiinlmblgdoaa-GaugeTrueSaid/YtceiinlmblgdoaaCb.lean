import Derived.Test.YtceiinlmblgdoaaRb2
import Derived.Test.YtceiinlmblgdoaaH
import Derived.Test.YtceiinlmblgdoaaBk2
set_option linter.unusedSimpArgs false
set_option linter.unusedVariables false
namespace Go.Proofs
open Go.RowKit

theorem bookE_eq (l0 l1 : Int) (n m : Nat) : bookE l0 l1 n m = if rangeE l0 l1 100000 = 0 then unl (decide ((n : Int) ≤ 40) && decide ((m : Int) ≤ 60)) 8 else rangeE l0 l1 100000 := by
  unfold bookE rangeE
  cases within l0 0 100000 <;> cases within l1 0 100000 <;> cases decide (l0 ≤ l1) <;> simp [firstE, unl]
theorem firstE_ok {o : Bool} {E : Int} (h1 : E = 0) (h2 : o = true) : firstE [E, unl o 9] = 0 := by subst h1 h2; rfl
theorem firstE_day {E : Int} (h1 : E = 0) : firstE [E, unl false 9] = 9 := by subst h1; rfl
theorem firstE_err {o : Bool} {E : Int} (h1 : E ≠ 0) : firstE [E, unl o 9] = E := by simp [firstE, h1]

end Go.Proofs
