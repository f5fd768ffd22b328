import Derived.Test.YtjfdjjekonkgjaaRb2
import Derived.Test.YtjfdjjekonkgjaaZf
set_option linter.unusedSimpArgs false
set_option linter.unusedVariables false
namespace Go.Proofs
open Go.RowKit

theorem refTold_any (a b : Int) (w : World) (h1 : -1000000000000000000 ≤ a) (h2 : a ≤ 1000000000000000000) (h3 : -1000000000000000000 ≤ b) (h4 : b ≤ 1000000000000000000) :
    Calls Try.prog 111 #[.agg #[.int .i64 a, .int .i64 b]] w fun e w' => e = .returned (.agg #[.int .i64 (a / 1000), .int .i64 (-(-b / 1000))]) ∧ Below w.heap.size w w' := by
  have hF := Lib.hid fun W => refFloor_any a 1000 W h1 h2 (by omega)
  have hC := Lib.hid fun W => refCeil_any b 1000 W h3 h4 (by omega)
  go_enter Try.func111, Try.ntmps111
  go_wp2_with fail
  refine region_in w 7 (by kernel_rfl) (by kernel_rfl) (by go_grown) ?_
  intro hgc hbx
  simp only [List.take_succ_cons, List.take_zero, List.drop_succ_cons, List.drop_zero]
  repeat (go_big_quiet_step (first
    | (go_at_call 75; exact Grew.call_same (hF.out _))
    | (go_at_call 76; exact Grew.call_same (hC.out _))))
  refine wpQuiet_nil ?_
  intro w1 hb1 hw1 hs1
  clear hgc hbx
  have B2 : w1.heap[w.heap.size + 1]? = some (.cells #[.int .i64 0, .int .i64 0] 24 (0, 0)) := bk_keep hb1 (by (repeat (first | assumption | exact bk_new _ _ (by simp) | refine bk_drew ?_ | refine bk_alloc ?_ _ | refine bk_set ?_ (by simp <;> omega) _)))
  have C2 := bk2 B2
  go_wp2
  refine bodyPost_ret (v := .agg #[.int .i64 (a / 1000), .int .i64 (-(-b / 1000))]) ?_ rfl ⟨rfl, ?_⟩
  · simp [results, Try.results111, go_sem, C2]
  · go_grown
end Go.Proofs
