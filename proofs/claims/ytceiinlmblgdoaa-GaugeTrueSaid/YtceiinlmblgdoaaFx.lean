import Derived.Test.YtceiinlmblgdoaaD
set_option linter.unusedSimpArgs false
set_option linter.unusedVariables false
namespace Go.Proofs
open Go.RowKit
theorem first2n (a b : Int) (w : World) {n : Nat} (hn : n = w.heap.size) : Calls Try.prog 17 #[.slice (some ⟨n, 0, none⟩) 2 2] (w.alloc (.cells #[.int .i64 a, .int .i64 b] 40)) fun e w' => e = .returned (.int .i64 (firstE [a, b])) ∧ w.alloc (.cells #[.int .i64 a, .int .i64 b] 40) = w' := by
  subst hn; exact first2 a b w
theorem first3n (a b c : Int) (w : World) {n : Nat} (hn : n = w.heap.size) : Calls Try.prog 17 #[.slice (some ⟨n, 0, none⟩) 3 3] (w.alloc (.cells #[.int .i64 a, .int .i64 b, .int .i64 c] 40)) fun e w' => e = .returned (.int .i64 (firstE [a, b, c])) ∧ w.alloc (.cells #[.int .i64 a, .int .i64 b, .int .i64 c] 40) = w' := by
  subst hn; exact first3 a b c w
theorem first4n (a b c d : Int) (w : World) {n : Nat} (hn : n = w.heap.size) : Calls Try.prog 17 #[.slice (some ⟨n, 0, none⟩) 4 4] (w.alloc (.cells #[.int .i64 a, .int .i64 b, .int .i64 c, .int .i64 d] 40)) fun e w' => e = .returned (.int .i64 (firstE [a, b, c, d])) ∧ w.alloc (.cells #[.int .i64 a, .int .i64 b, .int .i64 c, .int .i64 d] 40) = w' := by
  subst hn; exact first4 a b c d w
end Go.Proofs
