import Derived.Test.YtceiinlmblgdoaaGreatDoorO
set_option linter.unusedSimpArgs false
set_option linter.unusedVariables false
namespace Go.Proofs
open Go.RowKit

def areaE (r l : Int) : Int := if within r 10 800 && within l (-r) r then 0 else 2
def areaV (r l : Int) : Int × Int := if areaE r l = 0 then areaOf r l else (0, 0)
theorem within_true {n lo hi : Int} (h : within n lo hi = true) : lo ≤ n ∧ n ≤ hi := by unfold within at h; simp at h; omega

set_option maxRecDepth 100000 in
set_option maxHeartbeats 1000000 in
theorem areaTo_any (r l : Int) (w : World) :
    Calls Tryz.prog 10 #[.int .i64 r, .int .i64 l] w fun e w' => e = .returned (.tuple #[.agg #[.int .i64 (areaV r l).1, .int .i64 (areaV r l).2], .int .i64 (areaE r l)]) ∧ Below w.heap.size w w' := by
  unfold areaV areaE
  obtain ⟨b1, h1⟩ : ∃ b, within r 10 800 = b := ⟨_, rfl⟩
  obtain ⟨b2, h2⟩ : ∃ b, within l (-r) r = b := ⟨_, rfl⟩
  rw [h1, h2]
  cases b1
  · simp only [Bool.false_and]
    go_enter Tryz.func10, Tryz.ntmps10
    go_wp2_with (first
      | (go_at_call 28; refine (isRadius_any _ _ _).mono ?_; rintro e w' ⟨rfl, rfl⟩)
      | (go_at_call 29; refine (within_any _ _ _ _).mono ?_; rintro e w' ⟨rfl, rfl⟩))
    refine bodyPost_ret (v := .tuple #[.agg #[.int .i64 0, .int .i64 0], .int .i64 2]) ?_ rfl ⟨rfl, ?_⟩
    · simp [results, Tryz.results10, go_sem]
    · go_grown
  · obtain ⟨hr1, hr2⟩ := within_true h1
    cases b2
    · simp only [Bool.and_false]
      go_enter Tryz.func10, Tryz.ntmps10
      go_wp2_with (first
        | (go_at_call 28; refine (isRadius_any _ _ _).mono ?_; rintro e w' ⟨rfl, rfl⟩)
        | (go_at_call 29; refine (within_any _ _ _ _).mono ?_; rintro e w' ⟨rfl, rfl⟩))
      refine bodyPost_ret (v := .tuple #[.agg #[.int .i64 0, .int .i64 0], .int .i64 2]) ?_ rfl ⟨rfl, ?_⟩
      · simp [results, Tryz.results10, go_sem]
      · go_grown
    · obtain ⟨hl1, hl2⟩ := within_true h2
      simp only [Bool.and_self, if_true]
      have hA := fun W => area_any r l W (by omega) (by omega) (by omega) (by omega)
      generalize areaOf r l = a at *
      obtain ⟨a1, a2⟩ := a
      dsimp only at *
      have hA' := Lib.hid hA
      clear hA
      go_enter Tryz.func10, Tryz.ntmps10
      go_wp2_with (first
        | (go_at_call 28; refine (isRadius_any _ _ _).mono ?_; rintro e w' ⟨rfl, rfl⟩)
        | (go_at_call 29; refine (within_any _ _ _ _).mono ?_; rintro e w' ⟨rfl, rfl⟩)
        | (go_at_call 30; refine (hA'.out _).mono ?_; rintro e w1 ⟨rfl, hb⟩; have hcc := gcell hb; have hff := gfrozen hb; have hz0 : w.heap.size < w1.heap.size := (by have := hb.size; simp at this; omega); have hbw := via (by go_grown : Below w.heap.size w _) hb))
      refine bodyPost_ret (v := .tuple #[.agg #[.int .i64 a1, .int .i64 a2], .int .i64 0]) ?_ rfl ⟨rfl, ?_⟩
      · simp [results, Tryz.results10, go_sem, hcc, hff, hz0]
      · go_grown
end Go.Proofs
