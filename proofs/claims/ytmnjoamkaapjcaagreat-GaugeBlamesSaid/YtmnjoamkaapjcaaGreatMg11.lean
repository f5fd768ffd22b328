import Derived.Test.YtmnjoamkaapjcaaGreatMg10
import Derived.Test.YtmnjoamkaapjcaaGreatMg5
import Derived.Test.YtmnjoamkaapjcaaGreatMg8
set_option linter.unusedSimpArgs false
set_option linter.unusedVariables false
namespace Go.Proofs
open Go.RowKit

set_option maxRecDepth 100000 in
set_option maxHeartbeats 2000000 in
theorem refMoveErr_any (m : Mv) (w : World) (hs : m.f.size ≤ 9223372036854775807) (hs2 : m.t.size ≤ 9223372036854775807) :
    Calls Tryz.prog 64 #[.agg #[.int .i64 m.d, .string m.f, .string m.t, .int .i64 m.v]] w fun e w' => e = .returned (.int .i64 (moveE m)) ∧ Below w.heap.size w w' := by
  obtain ⟨d, f, t, v⟩ := m
  dsimp only at *
  have hD := Lib.hid fun W => refDayErr_any d W
  have hV := Lib.hid fun W => refWithin_any v 0 100000 W
  have hN1 := Lib.hid fun W => refName_any f W hs
  have hN2 := Lib.hid fun W => refName_any t W hs2
  clear hs hs2
  cases h1 : within d 0 100000
  · rw [h1] at hD
    have e : unl false 2 = 2 := rfl
    rw [e] at hD
    clear e
    have hv : moveE ⟨d, f, t, v⟩ = 2 := by simp [moveE, endB, eqS, firstE, unl, *]
    rw [hv]
    clear hv
    go_enter Tryz.func64, Tryz.ntmps64
    go_wp2_with (first | (go_at_call 93; refine Calls.mono (by with_reducible exact hN1.out _) ?_; rintro e w1 ⟨rfl, rfl⟩) | (go_at_call 93; refine Calls.mono (by with_reducible exact hN2.out _) ?_; rintro e w1 ⟨rfl, rfl⟩) | (go_at_call 94; refine (hD.out _).mono ?_; rintro e w1 ⟨rfl, rfl⟩) | (go_at_call 40; refine (hV.out _).mono ?_; rintro e w1 ⟨rfl, rfl⟩))
    go_ret
    exact ⟨rfl, new_below _ _⟩
  rw [h1] at hD
  have e : unl true 2 = 0 := rfl
  rw [e] at hD
  clear e
  cases hf : f.toList.isEmpty
  · cases nf : nameB f.data.toList
    · rw [nf] at hN1
      have hv : moveE ⟨d, f, t, v⟩ = 4 := by simp [moveE, endB, eqS, firstE, unl, *]
      rw [hv]
      clear hv
      go_enter Tryz.func64, Tryz.ntmps64
      go_wp2_with (first | (go_at_call 93; refine Calls.mono (by with_reducible exact hN1.out _) ?_; rintro e w1 ⟨rfl, rfl⟩) | (go_at_call 93; refine Calls.mono (by with_reducible exact hN2.out _) ?_; rintro e w1 ⟨rfl, rfl⟩) | (go_at_call 94; refine (hD.out _).mono ?_; rintro e w1 ⟨rfl, rfl⟩) | (go_at_call 40; refine (hV.out _).mono ?_; rintro e w1 ⟨rfl, rfl⟩))
      go_ret
      exact ⟨rfl, new_below _ _⟩
    · rw [nf] at hN1
      cases ht : t.toList.isEmpty
      · cases nt : nameB t.data.toList
        · rw [nt] at hN2
          have hv : moveE ⟨d, f, t, v⟩ = 4 := by simp [moveE, endB, eqS, firstE, unl, *]
          rw [hv]
          clear hv
          go_enter Tryz.func64, Tryz.ntmps64
          go_wp2_with (first | (go_at_call 93; refine Calls.mono (by with_reducible exact hN1.out _) ?_; rintro e w1 ⟨rfl, rfl⟩) | (go_at_call 93; refine Calls.mono (by with_reducible exact hN2.out _) ?_; rintro e w1 ⟨rfl, rfl⟩) | (go_at_call 94; refine (hD.out _).mono ?_; rintro e w1 ⟨rfl, rfl⟩) | (go_at_call 40; refine (hV.out _).mono ?_; rintro e w1 ⟨rfl, rfl⟩))
          go_ret
          exact ⟨rfl, new_below _ _⟩
        · rw [nt] at hN2
          cases hq : (f.toList == t.toList)
          · cases h4 : within v 0 100000
            · rw [h4] at hV
              have hv : moveE ⟨d, f, t, v⟩ = 2 := by simp [moveE, endB, eqS, firstE, unl, *]
              rw [hv]
              clear hv
              go_enter Tryz.func64, Tryz.ntmps64
              go_wp2_with (first | (go_at_call 93; refine Calls.mono (by with_reducible exact hN1.out _) ?_; rintro e w1 ⟨rfl, rfl⟩) | (go_at_call 93; refine Calls.mono (by with_reducible exact hN2.out _) ?_; rintro e w1 ⟨rfl, rfl⟩) | (go_at_call 94; refine (hD.out _).mono ?_; rintro e w1 ⟨rfl, rfl⟩) | (go_at_call 40; refine (hV.out _).mono ?_; rintro e w1 ⟨rfl, rfl⟩))
              go_ret
              exact ⟨rfl, new_below _ _⟩
            · rw [h4] at hV
              have hv : moveE ⟨d, f, t, v⟩ = 0 := by simp [moveE, endB, eqS, firstE, unl, *]
              rw [hv]
              clear hv
              go_enter Tryz.func64, Tryz.ntmps64
              go_wp2_with (first | (go_at_call 93; refine Calls.mono (by with_reducible exact hN1.out _) ?_; rintro e w1 ⟨rfl, rfl⟩) | (go_at_call 93; refine Calls.mono (by with_reducible exact hN2.out _) ?_; rintro e w1 ⟨rfl, rfl⟩) | (go_at_call 94; refine (hD.out _).mono ?_; rintro e w1 ⟨rfl, rfl⟩) | (go_at_call 40; refine (hV.out _).mono ?_; rintro e w1 ⟨rfl, rfl⟩))
              go_ret
              exact ⟨rfl, new_below _ _⟩
          · have hv : moveE ⟨d, f, t, v⟩ = 3 := by simp [moveE, endB, eqS, firstE, unl, *]
            rw [hv]
            clear hv
            go_enter Tryz.func64, Tryz.ntmps64
            go_wp2_with (first | (go_at_call 93; refine Calls.mono (by with_reducible exact hN1.out _) ?_; rintro e w1 ⟨rfl, rfl⟩) | (go_at_call 93; refine Calls.mono (by with_reducible exact hN2.out _) ?_; rintro e w1 ⟨rfl, rfl⟩) | (go_at_call 94; refine (hD.out _).mono ?_; rintro e w1 ⟨rfl, rfl⟩) | (go_at_call 40; refine (hV.out _).mono ?_; rintro e w1 ⟨rfl, rfl⟩))
            go_ret
            exact ⟨rfl, new_below _ _⟩
      · cases hq : (f.toList == t.toList)
        · cases h4 : within v 0 100000
          · rw [h4] at hV
            have hv : moveE ⟨d, f, t, v⟩ = 2 := by simp [moveE, endB, eqS, firstE, unl, *]
            rw [hv]
            clear hv
            go_enter Tryz.func64, Tryz.ntmps64
            go_wp2_with (first | (go_at_call 93; refine Calls.mono (by with_reducible exact hN1.out _) ?_; rintro e w1 ⟨rfl, rfl⟩) | (go_at_call 93; refine Calls.mono (by with_reducible exact hN2.out _) ?_; rintro e w1 ⟨rfl, rfl⟩) | (go_at_call 94; refine (hD.out _).mono ?_; rintro e w1 ⟨rfl, rfl⟩) | (go_at_call 40; refine (hV.out _).mono ?_; rintro e w1 ⟨rfl, rfl⟩))
            go_ret
            exact ⟨rfl, new_below _ _⟩
          · rw [h4] at hV
            have hv : moveE ⟨d, f, t, v⟩ = 0 := by simp [moveE, endB, eqS, firstE, unl, *]
            rw [hv]
            clear hv
            go_enter Tryz.func64, Tryz.ntmps64
            go_wp2_with (first | (go_at_call 93; refine Calls.mono (by with_reducible exact hN1.out _) ?_; rintro e w1 ⟨rfl, rfl⟩) | (go_at_call 93; refine Calls.mono (by with_reducible exact hN2.out _) ?_; rintro e w1 ⟨rfl, rfl⟩) | (go_at_call 94; refine (hD.out _).mono ?_; rintro e w1 ⟨rfl, rfl⟩) | (go_at_call 40; refine (hV.out _).mono ?_; rintro e w1 ⟨rfl, rfl⟩))
            go_ret
            exact ⟨rfl, new_below _ _⟩
        · have hv : moveE ⟨d, f, t, v⟩ = 3 := by simp [moveE, endB, eqS, firstE, unl, *]
          rw [hv]
          clear hv
          go_enter Tryz.func64, Tryz.ntmps64
          go_wp2_with (first | (go_at_call 93; refine Calls.mono (by with_reducible exact hN1.out _) ?_; rintro e w1 ⟨rfl, rfl⟩) | (go_at_call 93; refine Calls.mono (by with_reducible exact hN2.out _) ?_; rintro e w1 ⟨rfl, rfl⟩) | (go_at_call 94; refine (hD.out _).mono ?_; rintro e w1 ⟨rfl, rfl⟩) | (go_at_call 40; refine (hV.out _).mono ?_; rintro e w1 ⟨rfl, rfl⟩))
          go_ret
          exact ⟨rfl, new_below _ _⟩
  · cases ht : t.toList.isEmpty
    · cases nt : nameB t.data.toList
      · rw [nt] at hN2
        have hv : moveE ⟨d, f, t, v⟩ = 4 := by simp [moveE, endB, eqS, firstE, unl, *]
        rw [hv]
        clear hv
        go_enter Tryz.func64, Tryz.ntmps64
        go_wp2_with (first | (go_at_call 93; refine Calls.mono (by with_reducible exact hN1.out _) ?_; rintro e w1 ⟨rfl, rfl⟩) | (go_at_call 93; refine Calls.mono (by with_reducible exact hN2.out _) ?_; rintro e w1 ⟨rfl, rfl⟩) | (go_at_call 94; refine (hD.out _).mono ?_; rintro e w1 ⟨rfl, rfl⟩) | (go_at_call 40; refine (hV.out _).mono ?_; rintro e w1 ⟨rfl, rfl⟩))
        go_ret
        exact ⟨rfl, new_below _ _⟩
      · rw [nt] at hN2
        cases hq : (f.toList == t.toList)
        · cases h4 : within v 0 100000
          · rw [h4] at hV
            have hv : moveE ⟨d, f, t, v⟩ = 2 := by simp [moveE, endB, eqS, firstE, unl, *]
            rw [hv]
            clear hv
            go_enter Tryz.func64, Tryz.ntmps64
            go_wp2_with (first | (go_at_call 93; refine Calls.mono (by with_reducible exact hN1.out _) ?_; rintro e w1 ⟨rfl, rfl⟩) | (go_at_call 93; refine Calls.mono (by with_reducible exact hN2.out _) ?_; rintro e w1 ⟨rfl, rfl⟩) | (go_at_call 94; refine (hD.out _).mono ?_; rintro e w1 ⟨rfl, rfl⟩) | (go_at_call 40; refine (hV.out _).mono ?_; rintro e w1 ⟨rfl, rfl⟩))
            go_ret
            exact ⟨rfl, new_below _ _⟩
          · rw [h4] at hV
            have hv : moveE ⟨d, f, t, v⟩ = 0 := by simp [moveE, endB, eqS, firstE, unl, *]
            rw [hv]
            clear hv
            go_enter Tryz.func64, Tryz.ntmps64
            go_wp2_with (first | (go_at_call 93; refine Calls.mono (by with_reducible exact hN1.out _) ?_; rintro e w1 ⟨rfl, rfl⟩) | (go_at_call 93; refine Calls.mono (by with_reducible exact hN2.out _) ?_; rintro e w1 ⟨rfl, rfl⟩) | (go_at_call 94; refine (hD.out _).mono ?_; rintro e w1 ⟨rfl, rfl⟩) | (go_at_call 40; refine (hV.out _).mono ?_; rintro e w1 ⟨rfl, rfl⟩))
            go_ret
            exact ⟨rfl, new_below _ _⟩
        · have hv : moveE ⟨d, f, t, v⟩ = 3 := by simp [moveE, endB, eqS, firstE, unl, *]
          rw [hv]
          clear hv
          go_enter Tryz.func64, Tryz.ntmps64
          go_wp2_with (first | (go_at_call 93; refine Calls.mono (by with_reducible exact hN1.out _) ?_; rintro e w1 ⟨rfl, rfl⟩) | (go_at_call 93; refine Calls.mono (by with_reducible exact hN2.out _) ?_; rintro e w1 ⟨rfl, rfl⟩) | (go_at_call 94; refine (hD.out _).mono ?_; rintro e w1 ⟨rfl, rfl⟩) | (go_at_call 40; refine (hV.out _).mono ?_; rintro e w1 ⟨rfl, rfl⟩))
          go_ret
          exact ⟨rfl, new_below _ _⟩
    · cases hq : (f.toList == t.toList)
      · cases h4 : within v 0 100000
        · rw [h4] at hV
          have hv : moveE ⟨d, f, t, v⟩ = 2 := by simp [moveE, endB, eqS, firstE, unl, *]
          rw [hv]
          clear hv
          go_enter Tryz.func64, Tryz.ntmps64
          go_wp2_with (first | (go_at_call 93; refine Calls.mono (by with_reducible exact hN1.out _) ?_; rintro e w1 ⟨rfl, rfl⟩) | (go_at_call 93; refine Calls.mono (by with_reducible exact hN2.out _) ?_; rintro e w1 ⟨rfl, rfl⟩) | (go_at_call 94; refine (hD.out _).mono ?_; rintro e w1 ⟨rfl, rfl⟩) | (go_at_call 40; refine (hV.out _).mono ?_; rintro e w1 ⟨rfl, rfl⟩))
          go_ret
          exact ⟨rfl, new_below _ _⟩
        · rw [h4] at hV
          have hv : moveE ⟨d, f, t, v⟩ = 0 := by simp [moveE, endB, eqS, firstE, unl, *]
          rw [hv]
          clear hv
          go_enter Tryz.func64, Tryz.ntmps64
          go_wp2_with (first | (go_at_call 93; refine Calls.mono (by with_reducible exact hN1.out _) ?_; rintro e w1 ⟨rfl, rfl⟩) | (go_at_call 93; refine Calls.mono (by with_reducible exact hN2.out _) ?_; rintro e w1 ⟨rfl, rfl⟩) | (go_at_call 94; refine (hD.out _).mono ?_; rintro e w1 ⟨rfl, rfl⟩) | (go_at_call 40; refine (hV.out _).mono ?_; rintro e w1 ⟨rfl, rfl⟩))
          go_ret
          exact ⟨rfl, new_below _ _⟩
      · have hv : moveE ⟨d, f, t, v⟩ = 3 := by simp [moveE, endB, eqS, firstE, unl, *]
        rw [hv]
        clear hv
        go_enter Tryz.func64, Tryz.ntmps64
        go_wp2_with (first | (go_at_call 93; refine Calls.mono (by with_reducible exact hN1.out _) ?_; rintro e w1 ⟨rfl, rfl⟩) | (go_at_call 93; refine Calls.mono (by with_reducible exact hN2.out _) ?_; rintro e w1 ⟨rfl, rfl⟩) | (go_at_call 94; refine (hD.out _).mono ?_; rintro e w1 ⟨rfl, rfl⟩) | (go_at_call 40; refine (hV.out _).mono ?_; rintro e w1 ⟨rfl, rfl⟩))
        go_ret
        exact ⟨rfl, new_below _ _⟩

set_option maxRecDepth 100000 in
set_option maxHeartbeats 1000000 in
theorem refAllowed_any (l0 l1 : Int) (sr : Value) (A : Option Addr) (l : List Mv) (cap : Nat) (x : Rd) (day : Int) (w : World)
    (hl : l.length ≤ 60) (hm : ∀ m ∈ l, 0 ≤ m.v ∧ m.v ≤ 100000) (hat : At 4 Mv.cs w A l)
    (h0 : 0 ≤ l0) (h0' : l0 ≤ 100000) (h1 : 0 ≤ l1) (h1' : l1 ≤ 100000) (hd : 0 ≤ day) (hd' : day ≤ 100000)
    (hx : 0 ≤ x.d ∧ x.d ≤ 100000) (hlo : 0 ≤ x.lo ∧ x.lo ≤ 100000) (hhi : 0 ≤ x.hi ∧ x.hi ≤ 100000) :
    Calls Tryz.prog 65 #[.agg #[.int .i64 l0, .int .i64 l1, sr, .slice A l.length cap], .agg #[.string x.c, .int .i64 x.d, .int .i64 x.lo, .int .i64 x.hi], .int .i64 day] w fun e w' =>
      e = .returned (.agg #[.int .i64 (allowsLo l0 l1 l x day), .int .i64 (allowsHi l0 l1 l x day)]) ∧ Below w.heap.size w w' := by
  obtain ⟨c, d, lo, hi⟩ := x
  dsimp only at *
  obtain ⟨hx1, hx2⟩ := hx
  obtain ⟨hlo1, hlo2⟩ := hlo
  obtain ⟨hhi1, hhi2⟩ := hhi
  unfold allowsLo allowsHi
  dsimp only
  by_cases hp : 0 ≤ day - d
  · rw [if_pos hp, if_pos hp]
    have hp2 : d ≤ day := by omega
    have hc := Lib.hid fun W hw => refNet_any l0 l1 sr A l cap c d day W hl hm (At.below hat hw)
    have hb := netL_bd c d day l hm hl
    generalize netL l c d day = N at hc hb ⊢
    clear hm hat
    obtain ⟨hb1, hb2⟩ := hb
    obtain ⟨m1a, m1b⟩ := mul_bd l1 (day - d) (by omega) (by omega) (by omega) (by omega)
    obtain ⟨m0a, m0b⟩ := mul_bd l0 (day - d) (by omega) (by omega) (by omega) (by omega)
    go_enter Tryz.func65, Tryz.ntmps65
    go_wp2_with fail
    refine region_all w (by kernel_rfl) (by kernel_rfl) (by go_grown) ?_
    intro hgc hbx
    repeat (go_big_quiet_step ((go_at_call 95; exact Grew.call (hc.out _ (hbx.out _)))))
    refine wpQuiet_nil ?_
    intro w1 hb1 hw1 hs1
    clear hgc hbx
    have B0 : w1.heap[w.heap.size]? = some (.cells #[.int .i64 l0, .int .i64 l1, sr, .slice A l.length cap] 27 (0, 0)) := bk_keep hb1 (by (repeat (first | assumption | (refine bk_new _ _ ?_; (simp; done)) | refine bk_drew ?_ | refine bk_alloc ?_ _ | refine bk_set ?_ (by simp <;> omega) _)))
    have B1 : w1.heap[w.heap.size + 1]? = some (.cells #[.string c, .int .i64 d, .int .i64 lo, .int .i64 hi] 62 (0, 0)) := bk_keep hb1 (by (repeat (first | assumption | (refine bk_new _ _ ?_; (simp; done)) | refine bk_drew ?_ | refine bk_alloc ?_ _ | refine bk_set ?_ (by simp <;> omega) _)))
    have B2 : w1.heap[w.heap.size + 1 + 1]? = some (.cells #[.int .i64 0, .int .i64 0] 23 (0, 0)) := bk_keep hb1 (by (repeat (first | assumption | (refine bk_new _ _ ?_; (simp; done)) | refine bk_drew ?_ | refine bk_alloc ?_ _ | refine bk_set ?_ (by simp <;> omega) _)))
    have C0 := bk4 B0
    have C1 := bk4 B1
    have C2 := bk2 B2
    go_wp2
    refine bodyPost_ret (v := .agg #[.int .i64 (1000 * (lo + N) - l1 * (day - d)), .int .i64 (1000 * (hi + N) - l0 * (day - d))]) ?_ rfl ⟨rfl, ?_⟩
    · simp [results, Tryz.results65, go_sem, C2]
    · go_grown
  · rw [if_neg hp, if_neg hp]
    have hp2 : ¬ d ≤ day := by omega
    have hc := Lib.hid fun W hw => refNet_any l0 l1 sr A l cap c day d W hl hm (At.below hat hw)
    have hb := netL_bd c day d l hm hl
    generalize netL l c day d = N at hc hb ⊢
    clear hm hat
    obtain ⟨hb1, hb2⟩ := hb
    obtain ⟨m1a, m1b⟩ := mul_bd l1 (d - day) (by omega) (by omega) (by omega) (by omega)
    obtain ⟨m0a, m0b⟩ := mul_bd l0 (d - day) (by omega) (by omega) (by omega) (by omega)
    go_enter Tryz.func65, Tryz.ntmps65
    go_wp2_with fail
    refine region_all w (by kernel_rfl) (by kernel_rfl) (by go_grown) ?_
    intro hgc hbx
    repeat (go_big_quiet_step ((go_at_call 95; exact Grew.call (hc.out _ (hbx.out _)))))
    refine wpQuiet_nil ?_
    intro w1 hb1 hw1 hs1
    clear hgc hbx
    have B0 : w1.heap[w.heap.size]? = some (.cells #[.int .i64 l0, .int .i64 l1, sr, .slice A l.length cap] 27 (0, 0)) := bk_keep hb1 (by (repeat (first | assumption | (refine bk_new _ _ ?_; (simp; done)) | refine bk_drew ?_ | refine bk_alloc ?_ _ | refine bk_set ?_ (by simp <;> omega) _)))
    have B1 : w1.heap[w.heap.size + 1]? = some (.cells #[.string c, .int .i64 d, .int .i64 lo, .int .i64 hi] 62 (0, 0)) := bk_keep hb1 (by (repeat (first | assumption | (refine bk_new _ _ ?_; (simp; done)) | refine bk_drew ?_ | refine bk_alloc ?_ _ | refine bk_set ?_ (by simp <;> omega) _)))
    have B2 : w1.heap[w.heap.size + 1 + 1]? = some (.cells #[.int .i64 0, .int .i64 0] 23 (0, 0)) := bk_keep hb1 (by (repeat (first | assumption | (refine bk_new _ _ ?_; (simp; done)) | refine bk_drew ?_ | refine bk_alloc ?_ _ | refine bk_set ?_ (by simp <;> omega) _)))
    have C0 := bk4 B0
    have C1 := bk4 B1
    have C2 := bk2 B2
    go_wp2
    refine bodyPost_ret (v := .agg #[.int .i64 (1000 * (lo - N) + l0 * (d - day)), .int .i64 (1000 * (hi - N) + l1 * (d - day))]) ?_ rfl ⟨rfl, ?_⟩
    · simp [results, Tryz.results65, go_sem, C2]
    · go_grown
end Go.Proofs

set_option linter.unusedSimpArgs false
set_option linter.unusedVariables false
namespace Go.Proofs
open Go.RowKit
/-- The world under a name of its own. -/
theorem wp_world {P : Program} {c : Code} {Q : Exit → Act → World → Prop} {a : Act} {w : World} (h : ∀ W, W = w → c.wp P Q a W) : c.wp P Q a w := h w rfl
end Go.Proofs
