import Derived.Test.YtceiinlmblgdoaaGreatDoorNa
import Derived.Test.YtceiinlmblgdoaaGreatDoorF
set_option linter.unusedSimpArgs false
set_option linter.unusedVariables false
namespace Go.Proofs
open Go.RowKit


theorem unl0 {b : Bool} {n : Int} (hn : (n == 0) = false) : (unl b n != 0) = !b := by
  unfold unl
  cases b <;> simp_all [bne]
theorem gaugingE_eq (s : List UInt8) (d lo hi : Int) :
    gaugingE s d lo hi = if nameB s = true then (if within d 0 100000 = true then rangeE lo hi 100000 else 2) else 4 := by
  unfold gaugingE rangeE
  cases nameB s <;> cases within d 0 100000 <;> cases within lo 0 100000 <;> cases within hi 0 100000 <;> simp [firstE, unl]

set_option maxHeartbeats 400000 in
theorem refReadingErr_any (s : ByteArray) (d lo hi : Int) (w : World) (hs : s.size ≤ 9223372036854775807) :
    Calls Tryz.prog 9 #[.agg #[.string s, .int .i64 d, .int .i64 lo, .int .i64 hi]] w fun e w' => e = .returned (.int .i64 (gaugingE s.data.toList d lo hi)) ∧ Below w.heap.size w w' := by
  rw [gaugingE_eq]
  have hN := Lib.hid fun W => refName_any s W hs
  have hD := Lib.hid fun W => refDayErr_any d W
  have hR := Lib.hid fun W => refRangeErr_any lo hi 100000 W
  generalize rangeE lo hi 100000 = R at *
  cases h1 : nameB s.data.toList
  · rw [h1] at hN
    go_enter Tryz.func9, Tryz.ntmps9
    go_wp2_with (first | (go_at_call 25; refine (hN.out _).mono ?_; rintro e w1 ⟨rfl, rfl⟩) | (go_at_call 26; refine (hD.out _).mono ?_; rintro e w1 ⟨rfl, rfl⟩) | (go_at_call 27; refine (hR.out _).mono ?_; rintro e w1 ⟨rfl, hb⟩; have hbw := via (by go_grown : Below w.heap.size w _) hb))
    go_ret
    exact ⟨rfl, new_below _ _⟩
  · rw [h1] at hN
    cases h2 : within d 0 100000
    · rw [h2] at hD
      clear h1 h2
      have e : unl false 2 = 2 := rfl
      rw [e] at hD
      clear e
      go_enter Tryz.func9, Tryz.ntmps9
      go_wp2_with (first | (go_at_call 25; refine (hN.out _).mono ?_; rintro e w1 ⟨rfl, rfl⟩) | (go_at_call 26; refine (hD.out _).mono ?_; rintro e w1 ⟨rfl, rfl⟩) | (go_at_call 27; refine (hR.out _).mono ?_; rintro e w1 ⟨rfl, hb⟩; have hbw := via (by go_grown : Below w.heap.size w _) hb))
      go_ret
      exact ⟨rfl, new_below _ _⟩
    · rw [h2] at hD
      clear h1 h2
      have e : unl true 2 = 0 := rfl
      rw [e] at hD
      clear e
      go_enter Tryz.func9, Tryz.ntmps9
      go_wp2_with (first | (go_at_call 25; refine (hN.out _).mono ?_; rintro e w1 ⟨rfl, rfl⟩) | (go_at_call 26; refine (hD.out _).mono ?_; rintro e w1 ⟨rfl, rfl⟩) | (go_at_call 27; refine (hR.out _).mono ?_; rintro e w1 ⟨rfl, hb⟩; have hbw := via (by go_grown : Below w.heap.size w _) hb))
      go_ret
      exact ⟨rfl, hbw⟩

def netA (l : List Mv) : Prop := ∀ m ∈ l, 0 ≤ m.v ∧ m.v ≤ 100000
end Go.Proofs
