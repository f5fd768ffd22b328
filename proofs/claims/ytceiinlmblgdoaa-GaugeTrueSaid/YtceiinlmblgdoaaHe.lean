import Derived.Test.YtceiinlmblgdoaaD
import Derived.Test.YtceiinlmblgdoaaD
set_option linter.unusedSimpArgs false
set_option linter.unusedVariables false
namespace Go.Proofs
open Go.RowKit

def heldV (V L M t : Int) : Int := V - L * t - 10 * M * min 6 (max 0 t)
def six (t : Int) : Int := if 6 ≤ (if 0 < t then t else 0) then 6 else (if 0 < t then t else 0)
/-- What 'held' reckons, at whatever numbers. -/
def heldW (V L M t : Int) : Int := wrap64 (wrap64 (V - wrap64 (L * t)) - wrap64 (wrap64 (10 * M) * six t))
theorem wrap64_in (n : Int) (h : -9223372036854775808 ≤ n ∧ n ≤ 9223372036854775807) : wrap64 n = n := by unfold wrap64; omega
theorem six_eq (t : Int) : six t = min 6 (max 0 t) := by
  unfold six
  repeat' split
  all_goals omega
theorem mul_in {a b A B : Int} (h0 : 0 ≤ a) (h1 : a ≤ A) (h2 : 0 ≤ b) (h3 : b ≤ B) : 0 ≤ a * b ∧ a * b ≤ A * B :=
  ⟨Int.mul_nonneg h0 h2, Int.le_trans (Int.mul_le_mul_of_nonneg_right h1 h2) (Int.mul_le_mul_of_nonneg_left h3 (by omega))⟩
theorem heldW_eq {V L M t : Int} (hV : 0 ≤ V ∧ V ≤ 50000) (hL : 0 ≤ L ∧ L ≤ 1000) (hM : 0 ≤ M ∧ M ≤ 50) (ht : 0 ≤ t ∧ t ≤ 8) : heldW V L M t = heldV V L M t := by
  unfold heldW heldV
  rw [six_eq]
  have h1 := mul_in hL.1 hL.2 ht.1 ht.2
  have e0 : wrap64 (10 * M) = 10 * M := wrap64_in _ (by omega)
  have h2 := mul_in (a := 10 * M) (A := 500) (b := min 6 (max 0 t)) (B := 6) (by omega) (by omega) (by omega) (by omega)
  have e1 : wrap64 (L * t) = L * t := wrap64_in _ (by omega)
  have e2 : wrap64 (V - L * t) = V - L * t := wrap64_in _ (by omega)
  have e3 : wrap64 (10 * M * min 6 (max 0 t)) = 10 * M * min 6 (max 0 t) := wrap64_in _ (by omega)
  rw [e0, e1, e2, e3]
  exact wrap64_in _ (by omega)
theorem held_any (V L M t : Int) (d1 d2 : Value) (w : World) :
    Calls Try.prog 6 #[.agg #[.int .i64 V, .int .i64 L, .int .i64 M, d1, d2], .int .i64 t] w fun e w' =>
      e = .returned (.int .i64 (heldW V L M t)) ∧ Below w.heap.size w w' := by
  go_enter Try.func6, Try.ntmps6
  go_wp2
  · have h6 : six t = t := by unfold six; rw [if_neg (by omega), if_pos (by omega)]
    go_ret
    exact ⟨by unfold heldW; rw [h6]; rfl, by go_grown⟩
  · have h6 : six t = 0 := by unfold six; rw [if_neg (by omega), if_neg (by omega)]
    go_ret
    exact ⟨by unfold heldW; rw [h6, Int.mul_zero]; rfl, by go_grown⟩
  all_goals
    have h6 : six t = 6 := by unfold six; rw [if_pos (by assumption)]
    go_ret
    exact ⟨by unfold heldW; rw [h6]; rfl, by go_grown⟩
end Go.Proofs
