import Derived.Test.YtjfdjjekonkgjaaCb
import Derived.Test.YtjfdjjekonkgjaaRb
import Derived.Test.YtjfdjjekonkgjaaZ
set_option linter.unusedSimpArgs false
set_option linter.unusedVariables false
namespace Go.Proofs
open Go.RowKit

set_option maxRecDepth 100000 in
set_option maxHeartbeats 1000000 in
theorem refBookErr_any (l0 l1 : Int) (A A2 : Option Addr) (rs : List Rd) (ms : List Mv) (c c2 : Nat) (w : World)
    (hs : ∀ x ∈ rs, x.c.size ≤ 9223372036854775807) (hat : At 4 Rd.cs w A rs)
    (hs2 : ∀ x ∈ ms, x.f.size ≤ 9223372036854775807 ∧ x.t.size ≤ 9223372036854775807) (hat2 : At 4 Mv.cs w A2 ms) :
    Calls Try.prog 36 #[.agg #[.int .i64 l0, .int .i64 l1, .slice A rs.length c, .slice A2 ms.length c2]] w fun e w' =>
      e = .returned (.int .i64 (checkB l0 l1 rs ms).2) ∧ Below w.heap.size w w' := by
  have hO := Lib.hid fun W hb => refCheckBook_any l0 l1 A A2 rs ms c c2 W hs (At.below hat hb) hs2 (At.below hat2 hb)
  obtain ⟨V, hV⟩ : ∃ V, checkB l0 l1 rs ms = V := ⟨_, rfl⟩
  rw [hV] at hO ⊢
  clear hV hs hat hs2 hat2
  obtain ⟨⟨V1, V2⟩, V3⟩ := V
  unfold bval at hO
  dsimp only at hO ⊢
  go_enter Try.func36, Try.ntmps36
  go_wp2_with (first | (go_at_call 30; refine (hO.out _ ?_).mono ?_; (· go_grown); rintro e w1 ⟨rfl, hb⟩; have hbw := via (by go_grown : Below w.heap.size w _) hb))
  have hsz := hbw.size
  go_ret
  exact ⟨rfl, by go_grown⟩

set_option maxRecDepth 100000 in
set_option maxHeartbeats 1000000 in
theorem refNetOf_any (l0 l1 : Int) (A A2 : Option Addr) (rs : List Rd) (ms : List Mv) (c c2 : Nat) (cask : ByteArray) (a b : Int) (w : World)
    (hok : (checkB l0 l1 rs ms).2 = 0) (hat2 : At 4 Mv.cs w A2 ms) (hsc : cask.size ≤ 9223372036854775807) :
    Calls Try.prog 31 #[.agg #[.int .i64 l0, .int .i64 l1, .slice A rs.length c, .slice A2 ms.length c2], .string cask, .agg #[.int .i64 a, .int .i64 b]] w fun e w' =>
      e = .returned (.tuple #[.int .i64 (netOfV l0 l1 rs ms cask a b), .int .i64 (netOfE l0 l1 rs ms cask a b)]) ∧ Below w.heap.size w w' := by
  have hN := Lib.hid fun W => refName_any cask W hsc
  have hA := Lib.hid fun W => refDayErr_any a W
  have hB := Lib.hid fun W => refDayErr_any b W
  have hr := right_of hok
  have hT := Lib.hid fun W (hb : Below w.heap.size w W) => refNet_any l0 l1 (.slice A rs.length c) A2 ms c2 cask a b W hr.mn hr.mv (At.below hat2 hb)
  unfold netOfV netOfE
  rw [hok]
  clear hr hok hat2
  generalize netL ms cask a b = X at *
  cases hn : nameB cask.data.toList
  · rw [hn] at hN
    simp only [firstE, unl, Bool.false_eq_true, if_false, if_true, ne_eq]
    clear hn
    go_enter Try.func31, Try.ntmps31
    go_wp2_with (first | (go_at_call 58; refine (hN.out _).mono ?_; rintro e w1 ⟨rfl, rfl⟩) | (first | (go_at_call 37; refine Calls.mono (by with_reducible exact hA.out _) ?_; rintro e w1 ⟨rfl, rfl⟩) | (go_at_call 37; refine Calls.mono (by with_reducible exact hB.out _) ?_; rintro e w1 ⟨rfl, rfl⟩)))
    refine bodyPost_ret (v := .tuple #[.int .i64 0, .int .i64 4]) ?_ rfl ⟨rfl, ?_⟩
    · simp [results, Try.results31, go_sem]
    · go_grown
  rw [hn] at hN
  clear hn
  cases ha : within a 0 100000
  · rw [ha] at hA
    simp only [unl, Bool.false_eq_true, if_false] at hA
    simp only [firstE, unl, Bool.false_eq_true, if_false, if_true, ne_eq]
    clear ha
    go_enter Try.func31, Try.ntmps31
    go_wp2_with (first | (go_at_call 58; refine (hN.out _).mono ?_; rintro e w1 ⟨rfl, rfl⟩) | (first | (go_at_call 37; refine Calls.mono (by with_reducible exact hA.out _) ?_; rintro e w1 ⟨rfl, rfl⟩) | (go_at_call 37; refine Calls.mono (by with_reducible exact hB.out _) ?_; rintro e w1 ⟨rfl, rfl⟩)))
    refine bodyPost_ret (v := .tuple #[.int .i64 0, .int .i64 2]) ?_ rfl ⟨rfl, ?_⟩
    · simp [results, Try.results31, go_sem]
    · go_grown
  rw [ha] at hA
  simp only [unl, if_true] at hA
  clear ha
  cases hb0 : within b 0 100000
  · rw [hb0] at hB
    simp only [unl, Bool.false_eq_true, if_false] at hB
    simp only [firstE, unl, Bool.false_eq_true, if_false, if_true, ne_eq]
    clear hb0
    go_enter Try.func31, Try.ntmps31
    go_wp2_with (first | (go_at_call 58; refine (hN.out _).mono ?_; rintro e w1 ⟨rfl, rfl⟩) | (first | (go_at_call 37; refine Calls.mono (by with_reducible exact hA.out _) ?_; rintro e w1 ⟨rfl, rfl⟩) | (go_at_call 37; refine Calls.mono (by with_reducible exact hB.out _) ?_; rintro e w1 ⟨rfl, rfl⟩)))
    refine bodyPost_ret (v := .tuple #[.int .i64 0, .int .i64 2]) ?_ rfl ⟨rfl, ?_⟩
    · simp [results, Try.results31, go_sem]
    · go_grown
  rw [hb0] at hB
  simp only [unl, if_true] at hB
  clear hb0
  by_cases hab : a ≤ b
  · have hnb : ¬ b < a := by omega
    rw [decide_eq_true hab]
    simp only [firstE, unl, Bool.false_eq_true, if_false, if_true, ne_eq]
    go_enter Try.func31, Try.ntmps31
    go_wp2_with (first | (go_at_call 58; refine (hN.out _).mono ?_; rintro e w1 ⟨rfl, rfl⟩) | (first | (go_at_call 37; refine Calls.mono (by with_reducible exact hA.out _) ?_; rintro e w1 ⟨rfl, rfl⟩) | (go_at_call 37; refine Calls.mono (by with_reducible exact hB.out _) ?_; rintro e w1 ⟨rfl, rfl⟩)) | (go_at_call 91; refine (hT.out _ ?_).mono ?_; (· go_grown); rintro e w1 ⟨rfl, hb⟩; have hbw := via (by go_grown : Below w.heap.size w _) hb))
    refine bodyPost_ret (v := .tuple #[.int .i64 X, .int .i64 0]) ?_ rfl ⟨?_, ?_⟩
    · simp [results, Try.results31, go_sem]
    · simp [firstE]
    · go_grown
  · have hnb : b < a := by omega
    rw [decide_eq_false hab]
    simp only [firstE, unl, Bool.false_eq_true, if_false, if_true, ne_eq]
    go_enter Try.func31, Try.ntmps31
    go_wp2_with (first | (go_at_call 58; refine (hN.out _).mono ?_; rintro e w1 ⟨rfl, rfl⟩) | (first | (go_at_call 37; refine Calls.mono (by with_reducible exact hA.out _) ?_; rintro e w1 ⟨rfl, rfl⟩) | (go_at_call 37; refine Calls.mono (by with_reducible exact hB.out _) ?_; rintro e w1 ⟨rfl, rfl⟩)))
    refine bodyPost_ret (v := .tuple #[.int .i64 0, .int .i64 9]) ?_ rfl ⟨rfl, ?_⟩
    · simp [results, Try.results31, go_sem]
    · go_grown
end Go.Proofs
