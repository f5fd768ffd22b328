import Derived.Test.YtceiinlmblgdoaaSh
import Derived.Test.YtceiinlmblgdoaaD
set_option linter.unusedSimpArgs false
set_option linter.unusedVariables false
namespace Go.Proofs
open Go.RowKit

/-! The library's functions at no element. -/
theorem insert_none (A : Option Addr) (c : Nat) (w : World) : Calls Try.prog 60 #[.slice A 0 c, .int .i64 0, .int .i64 0] w fun e w' => e = .returned (.tuple #[]) ∧ Below w.heap.size w w' := by
  go_enter Try.func60, Try.ntmps60
  go_wp2
  go_loop [6] (fun i => i = .int .i64 1) (fun _ => 0)
  case atStart => rfl
  case round =>
    subst hrel
    go_wp2
    refine bodyPost_end (v := .tuple #[]) ?_ rfl ⟨rfl, Below.refl _ _⟩
    simp [results, Try.results60, go_sem]
theorem ones_zero (w : World) : Calls Try.prog 28 #[.int .u64 0] w fun e w' => e = .returned (.int .i64 0) ∧ Below w.heap.size w w' := by
  go_enter Try.func28, Try.ntmps28
  go_wp2
  refine bodyPost_ret (v := .int .i64 0) ?_ rfl ⟨rfl, Below.refl _ _⟩
  kernel_rfl
theorem indexFunc_none (A : Option Addr) (c : Nat) (F : Value) (w : World) : Calls Try.prog 45 #[.slice A 0 c, F] w fun e w' => e = .returned (.int .i64 (-1)) ∧ Below w.heap.size w w' := by
  go_enter Try.func45, Try.ntmps45
  go_wp2
  go_loop [8] (fun i => i = .int .i64 0) (fun _ => 0)
  case atStart => rfl
  case round =>
    subst hrel
    go_wp2
    go_ret
    exact ⟨rfl, Below.refl _ _⟩
theorem containsFunc_none (A : Option Addr) (c : Nat) (F : Value) (w : World) : Calls Try.prog 26 #[.slice A 0 c, F] w fun e w' => e = .returned (.bool false) ∧ Below w.heap.size w w' := by
  go_enter Try.func26, Try.ntmps26
  go_wp2_with (go_at_call 45; refine (indexFunc_none _ _ _ _).mono ?_; rintro e w' ⟨rfl, hb⟩)
  go_ret
  exact ⟨rfl, by go_grown⟩
theorem compact_none (A : Option Addr) (c : Nat) (w : World) : Calls Try.prog 23 #[.slice A 0 c] w fun e w' => e = .returned (.slice A 0 c) ∧ Below w.heap.size w w' := by
  go_enter Try.func23, Try.ntmps23
  go_wp2
  go_ret
  exact ⟨rfl, Below.refl _ _⟩
theorem pdq_none (A : Option Addr) (c : Nat) (n : Int) (w : World) : Calls Try.prog 43 #[.slice A 0 c, .int .i64 0, .int .i64 0, .int .i64 n] w fun e w' => e = .returned (.tuple #[]) ∧ Below w.heap.size w w' := by
  go_enter Try.func43, Try.ntmps43
  go_wp2
  go_loop [1, 2] (fun i j => i = .int .i64 0 ∧ j = .int .i64 0) (fun _ _ => 0)
  case atStart => exact ⟨rfl, rfl⟩
  case round =>
    obtain ⟨rfl, rfl⟩ := hrel
    go_wp2_with (go_at_call 60; refine (insert_none _ _ _).mono ?_; rintro e w' ⟨rfl, hb⟩)
    refine bodyPost_ret (v := .tuple #[]) ?_ rfl ⟨rfl, by go_grown⟩
    simp [results, Try.results43, go_sem]
theorem sort_none (A : Option Addr) (c : Nat) (w : World) : Calls Try.prog 22 #[.slice A 0 c] w fun e w' => e = .returned (.tuple #[]) ∧ Below w.heap.size w w' := by
  go_enter Try.func22, Try.ntmps22
  go_wp2_with (first | (go_at_call 44; refine (Try.bits_Len _ _ (by omega) (by omega)).mono ?_; rintro e w' ⟨rfl, rfl⟩) | (go_at_call 43; refine (pdq_none _ _ _ _).mono ?_; rintro e w' ⟨rfl, hb⟩))
  refine bodyPost_end (v := .tuple #[]) ?_ rfl ⟨rfl, by go_grown⟩
  simp [results, Try.results22, go_sem]
end Go.Proofs
