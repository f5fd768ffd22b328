import Derived.Test.YtceiinlmblgdoaaGreatDoorE
import Derived.Test.YtceiinlmblgdoaaGreatDoorBk
set_option linter.unusedSimpArgs false
set_option linter.unusedVariables false
namespace Go.Proofs
open Go.RowKit

set_option maxRecDepth 100000 in
set_option maxHeartbeats 1000000 in
theorem refName_any (s : ByteArray) (w : World) (hs : s.size ≤ 9223372036854775807) :
    Calls Tryz.prog 25 #[.string s] w fun e w' => e = .returned (.bool (nameB s.data.toList)) ∧ w = w' := by
  have hlen : Hid (s.data.toList.length = s.size) := by simp [Hid]
  by_cases h1 : s.size < 1
  · have i1 : (s.size : Int) < 1 := by omega
    have hv : nameB s.data.toList = false := by unfold nameB; rw [hlen.out]; simp; omega
    rw [hv]
    clear hv hlen
    go_enter Tryz.func25, Tryz.ntmps25
    go_wp2
    go_ret
    exact ⟨rfl, rfl⟩
  · have i1 : ¬ (s.size : Int) < 1 := by omega
    by_cases h2 : 12 < s.size
    · have i2 : 12 < (s.size : Int) := by omega
      have hv : nameB s.data.toList = false := by unfold nameB; rw [hlen.out]; simp; omega
      rw [hv]
      clear hv hlen
      go_enter Tryz.func25, Tryz.ntmps25
      go_wp2
      go_ret
      exact ⟨rfl, rfl⟩
    · have i2 : ¬ 12 < (s.size : Int) := by omega
      go_enter Tryz.func25, Tryz.ntmps25
      go_wp2
      go_loop [3] (fun i => ∃ k : Nat, k ≤ s.size ∧ i = .int .i64 k ∧ Hid (∀ j, j < k → charOk j ((s.data.toList.getD j 0).toNat : Int) = true)) (fun i => s.size - (intOf i).toNat)
      case atStart => exact ⟨0, Nat.zero_le _, rfl, fun j hj => by omega⟩
      case round =>
        obtain ⟨k, hk, rfl, hok⟩ := hrel
        by_cases hlt : k < s.size
        · obtain ⟨c, hc⟩ : ∃ c : UInt8, s[k]'hlt = c := ⟨_, rfl⟩
          have hc' : Hid (s.data.toList.getD k 0 = c) := by
            unfold Hid
            rw [← hc, List.getD_eq_getElem?_getD, List.getElem?_eq_getElem (by rw [hlen.out]; exact hlt)]
            simp; rfl
          have hb0 : (0 : Int) ≤ (c.toNat : Int) := by omega
          by_cases h0 : k = 0
          · have hk0 : ((k : Int) == 0) = true := by simp [h0]
            have h0' := Lib.hid h0
            clear h0
            go_wp2
            all_goals first
              | (exfalso; have := h0'.out; simp at *; omega)
              | (go_round
                 case rel => exact ⟨k + 1, by omega, by go_num, chars_more hok hc' (ok_is _ _ (by have := h0'.out; simp at *; omega))⟩
                 case measure => simp [intOf]; omega)
              | (go_ret; exact ⟨ret_bool (name_not (k := k) hlen hlt hc' (ok_not _ _ (by have := h0'.out; simp at *; omega))).symm, rfl⟩)
          · have hk0 : ((k : Int) == 0) = false := by simp [h0]
            go_wp2
            all_goals first
              | (exfalso; simp at *; omega)
              | (go_round
                 case rel => exact ⟨k + 1, by omega, by go_num, chars_more hok hc' (ok_is _ _ (by simp at *; omega))⟩
                 case measure => simp [intOf]; omega)
              | (go_ret; exact ⟨ret_bool (name_not (k := k) hlen hlt hc' (ok_not _ _ (by simp at *; omega))).symm, rfl⟩)
        · have hkk : k = s.size := by omega
          subst hkk
          have hcs : charsOk s.data.toList = true := charsOk_of _ (fun j hj => hok.out j (by rw [hlen.out] at hj; exact hj))
          have hv : nameB s.data.toList = true := by unfold nameB; rw [hcs, hlen.out]; simp; omega
          go_wp2
          go_ret
          exact ⟨rfl, rfl⟩

theorem refDayErr_any (n : Int) (w : World) : Calls Tryz.prog 26 #[.int .i64 n] w fun e w' => e = .returned (.int .i64 (unl (within n 0 100000) 2)) ∧ w = w' := by
  have hW := Lib.hid fun W => refWithin_any n 0 100000 W
  cases h : within n 0 100000
  all_goals
    rw [h] at hW
    go_enter Tryz.func26, Tryz.ntmps26
    go_wp2_with (go_at_call 54; refine (hW.out _).mono ?_; rintro e w1 ⟨rfl, rfl⟩)
    go_ret
    exact ⟨rfl, rfl⟩
def rangeE (lo hi m : Int) : Int := firstE [unl (within lo 0 m && within hi 0 m) 2, unl (decide (lo ≤ hi)) 9]
set_option maxHeartbeats 400000 in
theorem refRangeErr_any (lo hi m : Int) (w : World) :
    Calls Tryz.prog 27 #[.agg #[.int .i64 lo, .int .i64 hi], .int .i64 m] w fun e w' => e = .returned (.int .i64 (rangeE lo hi m)) ∧ Below w.heap.size w w' := by
  have hW := Lib.hid fun W => refWithin_any lo 0 m W
  have hV := Lib.hid fun W => refWithin_any hi 0 m W
  unfold rangeE
  cases h : within lo 0 m
  · rw [h] at hW
    go_enter Tryz.func27, Tryz.ntmps27
    go_wp2_with (go_at_call 54; refine Calls.mono (by with_reducible exact hW.out _) ?_; rintro e w1 ⟨rfl, rfl⟩)
    go_ret
    exact ⟨rfl, new_below _ _⟩
  · cases h2 : within hi 0 m
    · rw [h] at hW
      rw [h2] at hV
      go_enter Tryz.func27, Tryz.ntmps27
      go_wp2_with (first | (go_at_call 54; refine Calls.mono (by with_reducible exact hW.out _) ?_; rintro e w1 ⟨rfl, rfl⟩) | (go_at_call 54; refine Calls.mono (by with_reducible exact hV.out _) ?_; rintro e w1 ⟨rfl, rfl⟩))
      go_ret
      exact ⟨rfl, new_below _ _⟩
    · rw [h] at hW
      rw [h2] at hV
      by_cases h3 : lo ≤ hi
      · have i3 : ¬ hi < lo := by omega
        go_enter Tryz.func27, Tryz.ntmps27
        go_wp2_with (first | (go_at_call 54; refine Calls.mono (by with_reducible exact hW.out _) ?_; rintro e w1 ⟨rfl, rfl⟩) | (go_at_call 54; refine Calls.mono (by with_reducible exact hV.out _) ?_; rintro e w1 ⟨rfl, rfl⟩))
        go_ret
        exact ⟨by simp [h3, firstE, unl], new_below _ _⟩
      · have i3 : hi < lo := by omega
        go_enter Tryz.func27, Tryz.ntmps27
        go_wp2_with (first | (go_at_call 54; refine Calls.mono (by with_reducible exact hW.out _) ?_; rintro e w1 ⟨rfl, rfl⟩) | (go_at_call 54; refine Calls.mono (by with_reducible exact hV.out _) ?_; rintro e w1 ⟨rfl, rfl⟩))
        go_ret
        exact ⟨by simp [h3, firstE, unl], new_below _ _⟩
end Go.Proofs
