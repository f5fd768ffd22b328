import Derived.Test.YtjfdjjekonkgjaaDs
set_option linter.unusedSimpArgs false
set_option linter.unusedVariables false
namespace Go.Proofs
open Go.RowKit

set_option maxRecDepth 100000 in
set_option maxHeartbeats 2000000 in
theorem refDipOf_any (s : ByteArray) (bung : Int) (A : Option Addr) (ss : List St) (c : Nat) (vol : Int) (w : World) (hR : RightC bung ss) (hat : At 3 St.cs w A ss) :
    Calls Try.prog 46 #[.agg #[.string s, .int .i64 bung, .slice A ss.length c], .int .i64 vol] w fun e w' =>
      e = .returned (.tuple #[.agg #[.int .i64 (dipV bung ss vol).1.1, .int .i64 (dipV bung ss vol).1.2], .int .i64 (dipV bung ss vol).2]) ∧ Below w.heap.size w w' := by
  unfold dipV
  have hI := Lib.hid fun W => refWithin_any vol 0 100000 W
  cases hD : within vol 0 100000
  · rw [if_neg (by decide)]
    rw [hD] at hI
    go_enter Try.func46, Try.ntmps46
    go_wp2_with (go_at_call 19; refine (hI.out _).mono ?_; rintro e w1 ⟨rfl, rfl⟩)
    refine bodyPost_ret (v := .tuple #[.agg #[.int .i64 0, .int .i64 0], .int .i64 2]) ?_ rfl ⟨rfl, ?_⟩
    · simp [results, Try.results46, go_sem]
    · go_grown
  rw [if_pos rfl]
  rw [hD] at hI
  have h1 := Lib.hid fun W hb => least_any s bung A ss c vol W hR (At.below hat hb)
  have h2 := Lib.hid fun W hb => most_any s bung A ss c vol W hR (At.below hat hb) (within_true hD).1
  generalize dLo bung ss vol = L at *
  generalize dHi bung ss vol = H at *
  clear hD hR hat
  by_cases hLH : H < L
  · rw [if_pos hLH]
    go_enter Try.func46, Try.ntmps46
    go_wp2_with (go_at_call 19; refine (hI.out _).mono ?_; rintro e w1 ⟨rfl, rfl⟩)
    refine region_all w (by kernel_rfl) (by kernel_rfl) (by go_grown) ?_
    intro hgc hbx
    repeat (go_big_quiet_step (first | (go_at_call 101; exact Grew.call (h1.out _ (hbx.out _))) | (go_at_call 102; exact Grew.call (h2.out _ (hbx.out _)))))
    refine wpQuiet_nil ?_
    intro w1 hb1 hbw1 hsz1
    clear hgc hbx
    have B1 : w1.heap[w.heap.size + 1]? = some (.cells #[.int .i64 0, .int .i64 0] 24 (0, 0)) := bk_keep hb1 (by (repeat (first | assumption | exact bk_new _ _ (by simp) | refine bk_drew ?_ | refine bk_alloc ?_ _ | refine bk_set ?_ (by simp <;> omega) _)))
    have C1 := bk2 B1
    go_wp2
    refine bodyPost_ret (v := .tuple #[.agg #[.int .i64 0, .int .i64 0], .int .i64 12]) ?_ rfl ⟨rfl, ?_⟩
    · simp [results, Try.results46, go_sem, C1]
    · go_grown
  · rw [if_neg hLH]
    go_enter Try.func46, Try.ntmps46
    go_wp2_with (go_at_call 19; refine (hI.out _).mono ?_; rintro e w1 ⟨rfl, rfl⟩)
    refine region_all w (by kernel_rfl) (by kernel_rfl) (by go_grown) ?_
    intro hgc hbx
    repeat (go_big_quiet_step (first | (go_at_call 101; exact Grew.call (h1.out _ (hbx.out _))) | (go_at_call 102; exact Grew.call (h2.out _ (hbx.out _)))))
    refine wpQuiet_nil ?_
    intro w1 hb1 hbw1 hsz1
    clear hgc hbx
    have B1 : w1.heap[w.heap.size + 1]? = some (.cells #[.int .i64 0, .int .i64 0] 24 (0, 0)) := bk_keep hb1 (by (repeat (first | assumption | exact bk_new _ _ (by simp) | refine bk_drew ?_ | refine bk_alloc ?_ _ | refine bk_set ?_ (by simp <;> omega) _)))
    have C1 := bk2 B1
    go_wp2
    refine bodyPost_ret (v := .tuple #[.agg #[.int .i64 L, .int .i64 H], .int .i64 0]) ?_ rfl ⟨rfl, ?_⟩
    · simp [results, Try.results46, go_sem, C1]
    · go_grown
end Go.Proofs
