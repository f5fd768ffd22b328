import Derived.Test.YtceiinlmblgdoaaR
import Derived.Test.YtceiinlmblgdoaaZ
import Derived.Test.YtceiinlmblgdoaaFx
import Derived.Test.YtceiinlmblgdoaaMx
set_option linter.unusedSimpArgs false
set_option linter.unusedVariables false
namespace Go.Proofs
open Go.RowKit

/-- All gaugings of a right book that contradict; of a wrong one none. -/
def contV (l0 l1 : Int) (rs : List Rd) (ms : List Mv) : List (Nat × Nat) := if (checkB l0 l1 rs ms).2 = 0 then allPairs l0 l1 rs ms else []
set_option maxRecDepth 100000 in
set_option maxHeartbeats 1000000 in
theorem contradictions_any (l0 l1 : Int) (A A2 : Option Addr) (rs : List Rd) (ms : List Mv) (c c2 : Nat) (w : World)
    (hs : ∀ x ∈ rs, x.c.size ≤ 9223372036854775807) (hat : At 4 Rd.cs w A rs)
    (hs2 : ∀ x ∈ ms, x.f.size ≤ 9223372036854775807 ∧ x.t.size ≤ 9223372036854775807) (hat2 : At 4 Mv.cs w A2 ms) :
    Calls Try.prog 9 #[.agg #[.int .i64 l0, .int .i64 l1, .slice A rs.length c, .slice A2 ms.length c2]] w fun e w' =>
      (∃ A3 cap, e = .returned (.tuple #[.slice A3 (contV l0 l1 rs ms).length cap, .int .i64 (checkB l0 l1 rs ms).2]) ∧ At 2 Pc w' A3 (contV l0 l1 rs ms)) ∧ Below w.heap.size w w' := by
  have hO := Lib.hid fun W hb => openBook_any l0 l1 A A2 rs ms c c2 W hs (At.below hat hb) hs2 (At.below hat2 hb)
  have hP := Lib.hid fun (h : (checkB l0 l1 rs ms).2 = 0) W hW => pairs_any l0 l1 A A2 rs ms c c2 W (right_of h) (At.below hat hW) (At.below hat2 hW)
  unfold contV
  generalize allPairs l0 l1 rs ms = ps at *
  generalize (checkB l0 l1 rs ms).2 = E at *
  clear hs hs2 hat hat2
  by_cases hz : E = 0
  · subst hz
    rw [if_pos rfl]
    replace hP := Lib.hid (hP.out rfl)
    go_enter Try.func9, Try.ntmps9
    go_wp2_with (first | (go_at_call 16; refine (hO.out _ ?_).mono ?_; (· go_grown); rintro e w1 ⟨rfl, hb⟩; have hbw := via (by go_grown : Below w.heap.size w _) hb; have hsw := hbw.size) | (go_at_call 21; refine (hP.out _ ?_).mono ?_; (· go_grown); rintro e w2 ⟨⟨A3, cap, rfl, hat3⟩, hb⟩; have hbw := via (by go_grown : Below w.heap.size w _) hb; have hsw := hbw.size))
    refine bodyPost_ret (v := .tuple #[.slice A3 ps.length cap, .int .i64 0]) ?_ rfl ⟨⟨A3, cap, rfl, hat3⟩, by go_grown⟩
    simp [results, Try.results9, go_sem]
  · rw [if_neg hz]
    have z2 : (E != 0) = true := by simpa using hz
    clear hP
    go_enter Try.func9, Try.ntmps9
    go_wp2_with (first | (go_at_call 16; refine (hO.out _ ?_).mono ?_; (· go_grown); rintro e w1 ⟨rfl, hb⟩; have hbw := via (by go_grown : Below w.heap.size w _) hb; have hsw := hbw.size))
    refine bodyPost_ret (v := .tuple #[.slice none 0 0, .int .i64 E]) ?_ rfl ⟨⟨none, 0, rfl, fun k x hx => by simp at hx⟩, by go_grown⟩
    simp [results, Try.results9, go_sem]
end Go.Proofs
