import Derived.Test.YtjfdjjekonkgjaaDf
set_option linter.unusedSimpArgs false
set_option linter.unusedVariables false
namespace Go.Proofs
open Go.RowKit

set_option maxRecDepth 100000 in
set_option maxHeartbeats 4000000 in
theorem gaugeDeeper_walk (w : World) (s : ByteArray) (bung : Int) (A : Option Addr) (ss : List St) (c : Nat) (hs : s.size ≤ 9223372036854775807) (hb1 : -9223372036854775808 ≤ bung) (hb2 : bung ≤ 9223372036854775807)
    (hat : At 3 St.cs w A ss) (hl : ss.length ≤ c) (hn : A = none → c = 0) (d0 d1 : Int) (_ : -9223372036854775808 ≤ d0) (_ : d0 ≤ 9223372036854775807) (_ : -9223372036854775808 ≤ d1) (_ : d1 ≤ 9223372036854775807)
    (y0 y1 : Int) (_ : -9223372036854775808 ≤ y0) (_ : y0 ≤ 9223372036854775807) (_ : -9223372036854775808 ≤ y1) (_ : y1 ≤ 9223372036854775807) :
    Calls Try.prog 5 #[.agg #[.string s, .int .i64 bung, .slice A ss.length c], .agg #[.int .i64 d0, .int .i64 d1], .agg #[.int .i64 y0, .int .i64 y1]] w fun e w' => e = .returned (.bool true) ∧ Below w.heap.size w w' := by
  obtain ⟨n, hn0⟩ : ∃ n, ss.length = n := ⟨_, rfl⟩
  have hS := Lib.hid fun W => small_any s bung A n c W
  cases hsm : smallB s.size n bung
  · rw [hsm] at hS
    rw [hn0]
    clear hsm hn0
    go_enter Try.func5, Try.ntmps5
    go_wp2_with (first | (go_at_call 15; refine (awake_any _).mono ?_; rintro e w1 ⟨rfl, hb⟩; have hbw := via (by go_grown : Below w.heap.size w _) hb; have B0 : w1.heap[w.heap.size]? = some (.cells #[.string s, .int .i64 bung, .slice A n c] 34 (0, 0)) := bk_keep hb (by (repeat (first | assumption | exact bk_new _ _ (by simp) | refine bk_drew ?_ | refine bk_alloc ?_ _ | refine bk_set ?_ (by simp <;> omega) _))); have C0 := bk3 B0) | (go_at_call 20; refine (hS.out _).mono ?_; rintro e w2 ⟨rfl, hb⟩; have hbw := via (by go_grown : Below w.heap.size w _) hb; replace B0 := bk_keep hb B0; replace C0 := bk3 B0))
    go_ret
    exact ⟨rfl, hbw⟩
  rw [hsm] at hS
  obtain ⟨g1, g2, g3⟩ := small_len hsm
  have hC := Lib.hid fun W (hw : Below w.heap.size w W) => copyCask_any s bung A ss c W (by omega) hn (At.below hat hw)
  have hE := Lib.hid fun W (hw : Below w.heap.size w W) => caskErr_any s bung A ss c W hs (At.below hat hw)
  have hErr : Hid ((checkC s.data.toList bung ss).2 = 0 → RightC bung ss) := fun h => rightC_of h
  have hat' := Lib.hid hat
  have hn0' := Lib.hid hn0
  rw [hn0] at hC hE hl ⊢
  have hOwn := Lib.hid fun (h0 : 0 < ss.length) W (hw : Below w.heap.size w W) => copyCask_own s bung A ss c W (by omega) h0 (At.below hat hw)
  rw [hn0'.out] at hOwn
  clear hn hsm hat g1 g2 g3
  obtain ⟨E, hEE⟩ : ∃ E, (checkC s.data.toList bung ss).2 = E := ⟨_, rfl⟩
  rw [hEE] at hE hErr
  by_cases hz : E = 0
  case neg =>
    have z2 : (E != 0) = true := by simpa using hz
    clear hz hErr hEE hn0 hOwn
    go_enter Try.func5, Try.ntmps5
    go_wp2_with (first | (go_at_call 15; refine (awake_any _).mono ?_; rintro e w1 ⟨rfl, hb⟩; have hbw := via (by go_grown : Below w.heap.size w _) hb; have B0 : w1.heap[w.heap.size]? = some (.cells #[.string s, .int .i64 bung, .slice A n c] 34 (0, 0)) := bk_keep hb (by (repeat (first | assumption | exact bk_new _ _ (by simp) | refine bk_drew ?_ | refine bk_alloc ?_ _ | refine bk_set ?_ (by simp <;> omega) _))); have B1 : w1.heap[w.heap.size + 1]? = some (.cells #[.int .i64 d0, .int .i64 d1] 42 (0, 0)) := bk_keep hb (by (repeat (first | assumption | exact bk_new _ _ (by simp) | refine bk_drew ?_ | refine bk_alloc ?_ _ | refine bk_set ?_ (by simp <;> omega) _))); have B2 : w1.heap[w.heap.size + 1 + 1]? = some (.cells #[.int .i64 y0, .int .i64 y1] 42 (0, 0)) := bk_keep hb (by (repeat (first | assumption | exact bk_new _ _ (by simp) | refine bk_drew ?_ | refine bk_alloc ?_ _ | refine bk_set ?_ (by simp <;> omega) _))); have C0 := bk3 B0; have C1 := bk2 B1; have C2 := bk2 B2) | (go_at_call 20; refine (hS.out _).mono ?_; rintro e w2 ⟨rfl, hb⟩; have hbw := via (by go_grown : Below w.heap.size w _) hb; replace B0 := bk_keep hb B0; replace C0 := bk3 B0; replace B1 := bk_keep hb B1; replace C1 := bk2 B1; replace B2 := bk_keep hb B2; replace C2 := bk2 B2) | (go_at_call 23; refine (hE.out _ hbw).mono ?_; rintro e w3 ⟨rfl, hb⟩; have hbw := via (by go_grown : Below w.heap.size w _) hb; replace B0 := bk_keep hb B0; replace C0 := bk3 B0; replace B1 := bk_keep hb B1; replace C1 := bk2 B1; replace B2 := bk_keep hb B2; replace C2 := bk2 B2) | fail)
    go_ret
    exact ⟨rfl, by go_grown⟩
  subst hz
  have hR := hErr.out rfl
  have hRb := hR.b
  have hRn := hR.n
  replace hOwn := Lib.hid (hOwn.out (by omega))
  have hD0 := Lib.hid fun W => refDipErr_any s bung d0 A n c W (by omega) (by omega)
  have hD1 := Lib.hid fun W => refDipErr_any s bung d1 A n c W (by omega) (by omega)
  cases hd : within d0 0 (2 * bung)
  · rw [hd] at hD0
    have e1 : unl false 2 = 2 := rfl
    rw [e1] at hD0
    clear e1 hd hErr hEE hn0 hR hOwn
    go_enter Try.func5, Try.ntmps5
    go_wp2_with (first | (go_at_call 15; refine (awake_any _).mono ?_; rintro e w1 ⟨rfl, hb⟩; have hbw := via (by go_grown : Below w.heap.size w _) hb; have B0 : w1.heap[w.heap.size]? = some (.cells #[.string s, .int .i64 bung, .slice A n c] 34 (0, 0)) := bk_keep hb (by (repeat (first | assumption | exact bk_new _ _ (by simp) | refine bk_drew ?_ | refine bk_alloc ?_ _ | refine bk_set ?_ (by simp <;> omega) _))); have B1 : w1.heap[w.heap.size + 1]? = some (.cells #[.int .i64 d0, .int .i64 d1] 42 (0, 0)) := bk_keep hb (by (repeat (first | assumption | exact bk_new _ _ (by simp) | refine bk_drew ?_ | refine bk_alloc ?_ _ | refine bk_set ?_ (by simp <;> omega) _))); have B2 : w1.heap[w.heap.size + 1 + 1]? = some (.cells #[.int .i64 y0, .int .i64 y1] 42 (0, 0)) := bk_keep hb (by (repeat (first | assumption | exact bk_new _ _ (by simp) | refine bk_drew ?_ | refine bk_alloc ?_ _ | refine bk_set ?_ (by simp <;> omega) _))); have C0 := bk3 B0; have C1 := bk2 B1; have C2 := bk2 B2) | (go_at_call 20; refine (hS.out _).mono ?_; rintro e w2 ⟨rfl, hb⟩; have hbw := via (by go_grown : Below w.heap.size w _) hb; replace B0 := bk_keep hb B0; replace C0 := bk3 B0; replace B1 := bk_keep hb B1; replace C1 := bk2 B1; replace B2 := bk_keep hb B2; replace C2 := bk2 B2) | (go_at_call 23; refine (hE.out _ hbw).mono ?_; rintro e w3 ⟨rfl, hb⟩; have hbw := via (by go_grown : Below w.heap.size w _) hb; replace B0 := bk_keep hb B0; replace C0 := bk3 B0; replace B1 := bk_keep hb B1; replace C1 := bk2 B1; replace B2 := bk_keep hb B2; replace C2 := bk2 B2) | (go_at_call 24; refine Calls.mono (by with_reducible exact hD0.out _) ?_; rintro e w3 ⟨rfl, hb⟩; have hbw := via (by go_grown : Below w.heap.size w _) hb; replace B0 := bk_keep hb B0; replace C0 := bk3 B0; replace B1 := bk_keep hb B1; replace C1 := bk2 B1; replace B2 := bk_keep hb B2; replace C2 := bk2 B2))
    go_ret
    exact ⟨rfl, by go_grown⟩
  cases hd' : within d1 0 (2 * bung)
  · rw [hd] at hD0
    rw [hd'] at hD1
    have e1 : unl false 2 = 2 := rfl
    have e2 : unl true 2 = 0 := rfl
    rw [e1] at hD1
    rw [e2] at hD0
    clear e1 e2 hd hd' hErr hEE hn0 hR hOwn
    go_enter Try.func5, Try.ntmps5
    go_wp2_with (first | (go_at_call 15; refine (awake_any _).mono ?_; rintro e w1 ⟨rfl, hb⟩; have hbw := via (by go_grown : Below w.heap.size w _) hb; have B0 : w1.heap[w.heap.size]? = some (.cells #[.string s, .int .i64 bung, .slice A n c] 34 (0, 0)) := bk_keep hb (by (repeat (first | assumption | exact bk_new _ _ (by simp) | refine bk_drew ?_ | refine bk_alloc ?_ _ | refine bk_set ?_ (by simp <;> omega) _))); have B1 : w1.heap[w.heap.size + 1]? = some (.cells #[.int .i64 d0, .int .i64 d1] 42 (0, 0)) := bk_keep hb (by (repeat (first | assumption | exact bk_new _ _ (by simp) | refine bk_drew ?_ | refine bk_alloc ?_ _ | refine bk_set ?_ (by simp <;> omega) _))); have B2 : w1.heap[w.heap.size + 1 + 1]? = some (.cells #[.int .i64 y0, .int .i64 y1] 42 (0, 0)) := bk_keep hb (by (repeat (first | assumption | exact bk_new _ _ (by simp) | refine bk_drew ?_ | refine bk_alloc ?_ _ | refine bk_set ?_ (by simp <;> omega) _))); have C0 := bk3 B0; have C1 := bk2 B1; have C2 := bk2 B2) | (go_at_call 20; refine (hS.out _).mono ?_; rintro e w2 ⟨rfl, hb⟩; have hbw := via (by go_grown : Below w.heap.size w _) hb; replace B0 := bk_keep hb B0; replace C0 := bk3 B0; replace B1 := bk_keep hb B1; replace C1 := bk2 B1; replace B2 := bk_keep hb B2; replace C2 := bk2 B2) | (go_at_call 23; refine (hE.out _ hbw).mono ?_; rintro e w3 ⟨rfl, hb⟩; have hbw := via (by go_grown : Below w.heap.size w _) hb; replace B0 := bk_keep hb B0; replace C0 := bk3 B0; replace B1 := bk_keep hb B1; replace C1 := bk2 B1; replace B2 := bk_keep hb B2; replace C2 := bk2 B2) | (go_at_call 24; refine Calls.mono (by with_reducible exact hD0.out _) ?_; rintro e w3 ⟨rfl, hb⟩; have hbw := via (by go_grown : Below w.heap.size w _) hb; replace B0 := bk_keep hb B0; replace C0 := bk3 B0; replace B1 := bk_keep hb B1; replace C1 := bk2 B1; replace B2 := bk_keep hb B2; replace C2 := bk2 B2) | (go_at_call 24; refine Calls.mono (by with_reducible exact hD1.out _) ?_; rintro e w3 ⟨rfl, hb⟩; have hbw := via (by go_grown : Below w.heap.size w _) hb; replace B0 := bk_keep hb B0; replace C0 := bk3 B0; replace B1 := bk_keep hb B1; replace C1 := bk2 B1; replace B2 := bk_keep hb B2; replace C2 := bk2 B2))
    go_ret
    exact ⟨rfl, by go_grown⟩
  obtain ⟨d1a, d1b⟩ := within_true hd
  obtain ⟨d2a, d2b⟩ := within_true hd'
  rw [hd] at hD0
  rw [hd'] at hD1
  have e2 : unl true 2 = 0 := rfl
  rw [e2] at hD0 hD1
  clear e2 hd hd'
  by_cases hgt : d1 < d0
  · clear hErr hEE hn0 hR hOwn
    go_enter Try.func5, Try.ntmps5
    go_wp2_with (first | (go_at_call 15; refine (awake_any _).mono ?_; rintro e w1 ⟨rfl, hb⟩; have hbw := via (by go_grown : Below w.heap.size w _) hb; have B0 : w1.heap[w.heap.size]? = some (.cells #[.string s, .int .i64 bung, .slice A n c] 34 (0, 0)) := bk_keep hb (by (repeat (first | assumption | exact bk_new _ _ (by simp) | refine bk_drew ?_ | refine bk_alloc ?_ _ | refine bk_set ?_ (by simp <;> omega) _))); have B1 : w1.heap[w.heap.size + 1]? = some (.cells #[.int .i64 d0, .int .i64 d1] 42 (0, 0)) := bk_keep hb (by (repeat (first | assumption | exact bk_new _ _ (by simp) | refine bk_drew ?_ | refine bk_alloc ?_ _ | refine bk_set ?_ (by simp <;> omega) _))); have B2 : w1.heap[w.heap.size + 1 + 1]? = some (.cells #[.int .i64 y0, .int .i64 y1] 42 (0, 0)) := bk_keep hb (by (repeat (first | assumption | exact bk_new _ _ (by simp) | refine bk_drew ?_ | refine bk_alloc ?_ _ | refine bk_set ?_ (by simp <;> omega) _))); have C0 := bk3 B0; have C1 := bk2 B1; have C2 := bk2 B2) | (go_at_call 20; refine (hS.out _).mono ?_; rintro e w2 ⟨rfl, hb⟩; have hbw := via (by go_grown : Below w.heap.size w _) hb; replace B0 := bk_keep hb B0; replace C0 := bk3 B0; replace B1 := bk_keep hb B1; replace C1 := bk2 B1; replace B2 := bk_keep hb B2; replace C2 := bk2 B2) | (go_at_call 23; refine (hE.out _ hbw).mono ?_; rintro e w3 ⟨rfl, hb⟩; have hbw := via (by go_grown : Below w.heap.size w _) hb; replace B0 := bk_keep hb B0; replace C0 := bk3 B0; replace B1 := bk_keep hb B1; replace C1 := bk2 B1; replace B2 := bk_keep hb B2; replace C2 := bk2 B2) | (go_at_call 24; refine Calls.mono (by with_reducible exact hD0.out _) ?_; rintro e w3 ⟨rfl, hb⟩; have hbw := via (by go_grown : Below w.heap.size w _) hb; replace B0 := bk_keep hb B0; replace C0 := bk3 B0; replace B1 := bk_keep hb B1; replace C1 := bk2 B1; replace B2 := bk_keep hb B2; replace C2 := bk2 B2) | (go_at_call 24; refine Calls.mono (by with_reducible exact hD1.out _) ?_; rintro e w3 ⟨rfl, hb⟩; have hbw := via (by go_grown : Below w.heap.size w _) hb; replace B0 := bk_keep hb B0; replace C0 := bk3 B0; replace B1 := bk_keep hb B1; replace C1 := bk2 B1; replace B2 := bk_keep hb B2; replace C2 := bk2 B2))
    go_ret
    exact ⟨rfl, by go_grown⟩
  have hle : d0 ≤ d1 := by omega
  have hW0 := Lib.hid fun W => refWithin_any y0 0 100 W
  have hW1 := Lib.hid fun W => refWithin_any y1 0 100 W
  cases hy : within y0 0 100
  · rw [hy] at hW0
    clear hy hErr hEE hn0 hR hOwn hgt
    go_enter Try.func5, Try.ntmps5
    go_wp2_with (first | (go_at_call 15; refine (awake_any _).mono ?_; rintro e w1 ⟨rfl, hb⟩; have hbw := via (by go_grown : Below w.heap.size w _) hb; have B0 : w1.heap[w.heap.size]? = some (.cells #[.string s, .int .i64 bung, .slice A n c] 34 (0, 0)) := bk_keep hb (by (repeat (first | assumption | exact bk_new _ _ (by simp) | refine bk_drew ?_ | refine bk_alloc ?_ _ | refine bk_set ?_ (by simp <;> omega) _))); have B1 : w1.heap[w.heap.size + 1]? = some (.cells #[.int .i64 d0, .int .i64 d1] 42 (0, 0)) := bk_keep hb (by (repeat (first | assumption | exact bk_new _ _ (by simp) | refine bk_drew ?_ | refine bk_alloc ?_ _ | refine bk_set ?_ (by simp <;> omega) _))); have B2 : w1.heap[w.heap.size + 1 + 1]? = some (.cells #[.int .i64 y0, .int .i64 y1] 42 (0, 0)) := bk_keep hb (by (repeat (first | assumption | exact bk_new _ _ (by simp) | refine bk_drew ?_ | refine bk_alloc ?_ _ | refine bk_set ?_ (by simp <;> omega) _))); have C0 := bk3 B0; have C1 := bk2 B1; have C2 := bk2 B2) | (go_at_call 20; refine (hS.out _).mono ?_; rintro e w2 ⟨rfl, hb⟩; have hbw := via (by go_grown : Below w.heap.size w _) hb; replace B0 := bk_keep hb B0; replace C0 := bk3 B0; replace B1 := bk_keep hb B1; replace C1 := bk2 B1; replace B2 := bk_keep hb B2; replace C2 := bk2 B2) | (go_at_call 23; refine (hE.out _ hbw).mono ?_; rintro e w3 ⟨rfl, hb⟩; have hbw := via (by go_grown : Below w.heap.size w _) hb; replace B0 := bk_keep hb B0; replace C0 := bk3 B0; replace B1 := bk_keep hb B1; replace C1 := bk2 B1; replace B2 := bk_keep hb B2; replace C2 := bk2 B2) | (go_at_call 24; refine Calls.mono (by with_reducible exact hD0.out _) ?_; rintro e w3 ⟨rfl, hb⟩; have hbw := via (by go_grown : Below w.heap.size w _) hb; replace B0 := bk_keep hb B0; replace C0 := bk3 B0; replace B1 := bk_keep hb B1; replace C1 := bk2 B1; replace B2 := bk_keep hb B2; replace C2 := bk2 B2) | (go_at_call 24; refine Calls.mono (by with_reducible exact hD1.out _) ?_; rintro e w3 ⟨rfl, hb⟩; have hbw := via (by go_grown : Below w.heap.size w _) hb; replace B0 := bk_keep hb B0; replace C0 := bk3 B0; replace B1 := bk_keep hb B1; replace C1 := bk2 B1; replace B2 := bk_keep hb B2; replace C2 := bk2 B2) | (go_at_call 19; refine Calls.mono (by with_reducible exact hW0.out _) ?_; rintro e w3 ⟨rfl, rfl⟩))
    go_ret
    exact ⟨rfl, by go_grown⟩
  cases hy' : within y1 0 100
  · rw [hy] at hW0
    rw [hy'] at hW1
    clear hy hy' hErr hEE hn0 hR hOwn hgt
    go_enter Try.func5, Try.ntmps5
    go_wp2_with (first | (go_at_call 15; refine (awake_any _).mono ?_; rintro e w1 ⟨rfl, hb⟩; have hbw := via (by go_grown : Below w.heap.size w _) hb; have B0 : w1.heap[w.heap.size]? = some (.cells #[.string s, .int .i64 bung, .slice A n c] 34 (0, 0)) := bk_keep hb (by (repeat (first | assumption | exact bk_new _ _ (by simp) | refine bk_drew ?_ | refine bk_alloc ?_ _ | refine bk_set ?_ (by simp <;> omega) _))); have B1 : w1.heap[w.heap.size + 1]? = some (.cells #[.int .i64 d0, .int .i64 d1] 42 (0, 0)) := bk_keep hb (by (repeat (first | assumption | exact bk_new _ _ (by simp) | refine bk_drew ?_ | refine bk_alloc ?_ _ | refine bk_set ?_ (by simp <;> omega) _))); have B2 : w1.heap[w.heap.size + 1 + 1]? = some (.cells #[.int .i64 y0, .int .i64 y1] 42 (0, 0)) := bk_keep hb (by (repeat (first | assumption | exact bk_new _ _ (by simp) | refine bk_drew ?_ | refine bk_alloc ?_ _ | refine bk_set ?_ (by simp <;> omega) _))); have C0 := bk3 B0; have C1 := bk2 B1; have C2 := bk2 B2) | (go_at_call 20; refine (hS.out _).mono ?_; rintro e w2 ⟨rfl, hb⟩; have hbw := via (by go_grown : Below w.heap.size w _) hb; replace B0 := bk_keep hb B0; replace C0 := bk3 B0; replace B1 := bk_keep hb B1; replace C1 := bk2 B1; replace B2 := bk_keep hb B2; replace C2 := bk2 B2) | (go_at_call 23; refine (hE.out _ hbw).mono ?_; rintro e w3 ⟨rfl, hb⟩; have hbw := via (by go_grown : Below w.heap.size w _) hb; replace B0 := bk_keep hb B0; replace C0 := bk3 B0; replace B1 := bk_keep hb B1; replace C1 := bk2 B1; replace B2 := bk_keep hb B2; replace C2 := bk2 B2) | (go_at_call 24; refine Calls.mono (by with_reducible exact hD0.out _) ?_; rintro e w3 ⟨rfl, hb⟩; have hbw := via (by go_grown : Below w.heap.size w _) hb; replace B0 := bk_keep hb B0; replace C0 := bk3 B0; replace B1 := bk_keep hb B1; replace C1 := bk2 B1; replace B2 := bk_keep hb B2; replace C2 := bk2 B2) | (go_at_call 24; refine Calls.mono (by with_reducible exact hD1.out _) ?_; rintro e w3 ⟨rfl, hb⟩; have hbw := via (by go_grown : Below w.heap.size w _) hb; replace B0 := bk_keep hb B0; replace C0 := bk3 B0; replace B1 := bk_keep hb B1; replace C1 := bk2 B1; replace B2 := bk_keep hb B2; replace C2 := bk2 B2) | (go_at_call 19; refine Calls.mono (by with_reducible exact hW0.out _) ?_; rintro e w3 ⟨rfl, rfl⟩) | (go_at_call 19; refine Calls.mono (by with_reducible exact hW1.out _) ?_; rintro e w3 ⟨rfl, rfl⟩))
    go_ret
    exact ⟨rfl, by go_grown⟩
  obtain ⟨y1a, y1b⟩ := within_true hy
  obtain ⟨y2a, y2b⟩ := within_true hy'
  rw [hy] at hW0
  rw [hy'] at hW1
  clear hy hy'
  have hV := Lib.hid fun W A' c' d (h1 : 0 ≤ d) (h2 : d ≤ 2 * bung) (hc : ss.length ≤ c') (ha : At 3 St.cs W A' ss) => volumeTo_right s bung A' ss c' d W hs hc ha hR hEE h1 h2
  simp only [hn0] at hV
  have hV0 := Lib.hid fun W A' c' hc ha => hV.out W A' c' d0 d1a d1b hc ha
  have hV1 := Lib.hid fun W A' c' hc ha => hV.out W A' c' d1 d2a d2b hc ha
  have hdeep := toV_deeper hR hle
  have hwid := wider_wid (dip := d1) y1a y2a hEE
  have hch := checkC_wid (a := y0) (b := y1) y1a y2a hEE
  have hRw := rightC_of hch
  have hVW := Lib.hid fun W A' c' hc ha => volumeTo_right s bung A' (ss.map (widS bung y0 y1)) c' d1 W hs hc ha hRw hch d2a d2b
  rw [List.length_map, hn0] at hVW
  obtain ⟨v1, v2, v3⟩ := toV_bd hR d1a d1b
  have hSt := Lib.hid hR.s
  have hne : 1 < n := by rw [← hn0]; exact hR.n.1
  have hn12 : n ≤ 12 := by rw [← hn0]; exact hR.n.2
  clear hV hErr hR hRn hRw hch hEE hgt
  generalize toV bung d0 ss = T0 at *
  generalize toV bung d1 (ss.map (widS bung y0 y1)) = T2 at *
  generalize toV bung d1 ss = T1 at *
  obtain ⟨P1, P2⟩ := T0
  obtain ⟨Q1, Q2⟩ := T1
  obtain ⟨R1, R2⟩ := T2
  dsimp only at *
  obtain ⟨p1, p2⟩ := hdeep
  obtain ⟨p3, p4⟩ := hwid
  have n1 : ¬ P2 < P1 := by omega
  have n2 : ¬ Q1 < P1 := by omega
  have n3 : ¬ Q2 < P2 := by omega
  go_enter Try.func5, Try.ntmps5
  go_wp2_with (first | (go_at_call 15; refine (awake_any _).mono ?_; rintro e w1 ⟨rfl, hb⟩; have hbw := via (by go_grown : Below w.heap.size w _) hb; have B0 : w1.heap[w.heap.size]? = some (.cells #[.string s, .int .i64 bung, .slice A n c] 34 (0, 0)) := bk_keep hb (by (repeat (first | assumption | exact bk_new _ _ (by simp) | refine bk_drew ?_ | refine bk_alloc ?_ _ | refine bk_set ?_ (by simp <;> omega) _))); have B1 : w1.heap[w.heap.size + 1]? = some (.cells #[.int .i64 d0, .int .i64 d1] 42 (0, 0)) := bk_keep hb (by (repeat (first | assumption | exact bk_new _ _ (by simp) | refine bk_drew ?_ | refine bk_alloc ?_ _ | refine bk_set ?_ (by simp <;> omega) _))); have B2 : w1.heap[w.heap.size + 1 + 1]? = some (.cells #[.int .i64 y0, .int .i64 y1] 42 (0, 0)) := bk_keep hb (by (repeat (first | assumption | exact bk_new _ _ (by simp) | refine bk_drew ?_ | refine bk_alloc ?_ _ | refine bk_set ?_ (by simp <;> omega) _))); have C0 := bk3 B0; have C1 := bk2 B1; have C2 := bk2 B2) | (go_at_call 20; refine (hS.out _).mono ?_; rintro e w2 ⟨rfl, hb⟩; have hbw := via (by go_grown : Below w.heap.size w _) hb; replace B0 := bk_keep hb B0; replace C0 := bk3 B0; replace B1 := bk_keep hb B1; replace C1 := bk2 B1; replace B2 := bk_keep hb B2; replace C2 := bk2 B2) | (go_at_call 23; refine (hE.out _ hbw).mono ?_; rintro e w3 ⟨rfl, hb⟩; have hbw := via (by go_grown : Below w.heap.size w _) hb; replace B0 := bk_keep hb B0; replace C0 := bk3 B0; replace B1 := bk_keep hb B1; replace C1 := bk2 B1; replace B2 := bk_keep hb B2; replace C2 := bk2 B2) | (go_at_call 24; refine Calls.mono (by with_reducible exact hD0.out _) ?_; rintro e w3 ⟨rfl, hb⟩; have hbw := via (by go_grown : Below w.heap.size w _) hb; replace B0 := bk_keep hb B0; replace C0 := bk3 B0; replace B1 := bk_keep hb B1; replace C1 := bk2 B1; replace B2 := bk_keep hb B2; replace C2 := bk2 B2) | (go_at_call 24; refine Calls.mono (by with_reducible exact hD1.out _) ?_; rintro e w3 ⟨rfl, hb⟩; have hbw := via (by go_grown : Below w.heap.size w _) hb; replace B0 := bk_keep hb B0; replace C0 := bk3 B0; replace B1 := bk_keep hb B1; replace C1 := bk2 B1; replace B2 := bk_keep hb B2; replace C2 := bk2 B2) | (go_at_call 19; refine Calls.mono (by with_reducible exact hW0.out _) ?_; rintro e w3 ⟨rfl, rfl⟩) | (go_at_call 19; refine Calls.mono (by with_reducible exact hW1.out _) ?_; rintro e w3 ⟨rfl, rfl⟩))
  apply region_copy w 1 4 8 9 60 63 7 (CaskAt s bung ss n) ((.tuple #[.agg #[.int .i64 P1, .int .i64 P2], .int .i64 0])) (.cells #[.int .i64 0, .int .i64 0] 24 (0, 0)) (.cells #[.int .i64 P1, .int .i64 P2] 24 (0, 0))
  case hm => kernel_rfl
  case hB => kernel_rfl
  case hB' => kernel_rfl
  case hS => kernel_rfl
  case hN => kernel_rfl
  case hw => exact hbw
  case hst => exact (caskAt_stable s bung ss n)
  case hal => intro o ho; simp at ho; subst ho; intro a x; kernel_rfl
  case hq =>
    intro u hu hgc hbx hbX
    have D0 := bk_keep hu B0
    have E0 := bk3 D0
    have D1 := bk_keep hu B1
    have E1 := bk2 D1
    simp only [dummyC, struck, yieldsC, Nat.reduceAdd, Nat.reduceBEq, Nat.zero_add, Bool.or_false, Bool.or_true, Bool.false_or, Bool.true_or, Bool.false_eq_true, if_true, if_false, Bool.or_self]
    repeat (go_big_quiet_step (fail))
    exact wpQuiet_nil rfl
  case hcp =>
    intro o ho x hx hw
    simp at ho
    subst ho
    exact ⟨22, #[.agg #[.string s, .int .i64 bung, .slice A n c]], by kernel_rfl, (hC.out x hw).mono fun e x' ⟨⟨A', c', he, ha, hc⟩, hb⟩ => ⟨_, he, ⟨A', c', rfl, ha, hc⟩, hb⟩⟩
  case hcl =>
    intro o ho V x hx hw hp
    simp at ho
    subst ho
    obtain ⟨A', c', rfl, ha, hc⟩ := hp
    exact ⟨21, #[.agg #[.string s, .int .i64 bung, .slice A' n c'], .int .i64 d0], by kernel_rfl, hV0.out x A' c' hc ha⟩
  case hsto =>
    intro o ho B x hx hB hz
    simp at ho
    subst ho
    have Cz := bk2 hz
    refine ⟨(x.setCell ⟨B, 0, none⟩ (.int .i64 (P1))).setCell ⟨B, 1, none⟩ (.int .i64 (P2)), by simp [execOp, go_sem, Act.put, Cz], below_in (below_in hx hB _) hB _, bk_here (bk_here hz _ rfl) _ rfl⟩
  case h =>
  intro M1 V x hB hx hw hz
  simp only [Act.put, List.setIfInBounds_toArray, List.set_cons_succ, List.set_cons_zero]
  replace B0 := bk_keep hx B0
  replace B1 := bk_keep hx B1
  replace B2 := bk_keep hx B2
  replace C0 := bk3 B0
  replace C1 := bk2 B1
  replace C2 := bk2 B2
  have hbw := hw
  clear hx hb hD0 hD1 hW0 hW1 hE
  go_wp2_with fail
  apply region_copy w 1 4 8 9 68 71 9 (CaskAt s bung ss n) ((.tuple #[.agg #[.int .i64 Q1, .int .i64 Q2], .int .i64 0])) (.cells #[.int .i64 0, .int .i64 0] 24 (0, 0)) (.cells #[.int .i64 Q1, .int .i64 Q2] 24 (0, 0))
  case hm => kernel_rfl
  case hB => kernel_rfl
  case hB' => kernel_rfl
  case hS => kernel_rfl
  case hN => kernel_rfl
  case hw => exact hbw
  case hst => exact (caskAt_stable s bung ss n)
  case hal => intro o ho; simp at ho; subst ho; intro a x; kernel_rfl
  case hq =>
    intro u hu hgc hbx hbX
    have D0 := bk_keep hu B0
    have E0 := bk3 D0
    have D1 := bk_keep hu B1
    have E1 := bk2 D1
    simp only [dummyC, struck, yieldsC, Nat.reduceAdd, Nat.reduceBEq, Nat.zero_add, Bool.or_false, Bool.or_true, Bool.false_or, Bool.true_or, Bool.false_eq_true, if_true, if_false, Bool.or_self]
    repeat (go_big_quiet_step (fail))
    exact wpQuiet_nil rfl
  case hcp =>
    intro o ho x hx hw
    simp at ho
    subst ho
    exact ⟨22, #[.agg #[.string s, .int .i64 bung, .slice A n c]], by kernel_rfl, (hC.out x hw).mono fun e x' ⟨⟨A', c', he, ha, hc⟩, hb⟩ => ⟨_, he, ⟨A', c', rfl, ha, hc⟩, hb⟩⟩
  case hcl =>
    intro o ho V x hx hw hp
    simp at ho
    subst ho
    obtain ⟨A', c', rfl, ha, hc⟩ := hp
    exact ⟨21, #[.agg #[.string s, .int .i64 bung, .slice A' n c'], .int .i64 d1], by kernel_rfl, hV1.out x A' c' hc ha⟩
  case hsto =>
    intro o ho B x hx hB hz
    simp at ho
    subst ho
    have Cz := bk2 hz
    refine ⟨(x.setCell ⟨B, 0, none⟩ (.int .i64 (Q1))).setCell ⟨B, 1, none⟩ (.int .i64 (Q2)), by simp [execOp, go_sem, Act.put, Cz], below_in (below_in hx hB _) hB _, bk_here (bk_here hz _ rfl) _ rfl⟩
  case h =>
  intro M2 V2 x2 hB2 hx hw2 hz2
  simp only [Act.put, List.setIfInBounds_toArray, List.set_cons_succ, List.set_cons_zero]
  replace B0 := bk_keep hx B0
  replace B1 := bk_keep hx B1
  replace B2 := bk_keep hx B2
  replace C0 := bk3 B0
  replace C1 := bk2 B1
  replace C2 := bk2 B2
  have B3 := bk_keep hx hz
  have C3 := bk2 B3
  have C4 := bk2 hz2
  replace hbw := hw2
  have hz0 := bk_size B2
  have hz1 := bk_size B3
  clear hx hz hw hw2
  go_wp2_with (go_at_call 22; refine (hOwn.out _ hbw).mono ?_; rintro e w9 ⟨⟨gb, gc, rfl, hown, hgc, hgb⟩, hb⟩; have hbw := via (by go_grown : Below w.heap.size w _) hb; replace B0 := bk_keep hb B0; replace C0 := bk3 B0; replace B1 := bk_keep hb B1; replace C1 := bk2 B1; replace B2 := bk_keep hb B2; replace C2 := bk2 B2; replace B3 := bk_keep hb B3; replace C3 := bk2 B3; have B4 := bk_keep hb hz2; replace C4 := bk2 B4)
  refine wp_world ?_
  intro W hW_W
  have hb_W : Below w.heap.size w W := by rw [hW_W]; go_grown
  have N0 : W.heap[w.heap.size]? = some (.cells #[.string s, .int .i64 bung, .slice A n c] 34 (0, 0)) := by rw [hW_W]; (repeat (first | assumption | exact bk_new _ _ (by simp) | refine bk_drew ?_ | refine bk_alloc ?_ _ | refine bk_set ?_ (by simp <;> omega) _))
  have N1 : W.heap[w.heap.size + 1]? = some (.cells #[.int .i64 d0, .int .i64 d1] 42 (0, 0)) := by rw [hW_W]; (repeat (first | assumption | exact bk_new _ _ (by simp) | refine bk_drew ?_ | refine bk_alloc ?_ _ | refine bk_set ?_ (by simp <;> omega) _))
  have N2 : W.heap[w.heap.size + 1 + 1]? = some (.cells #[.int .i64 y0, .int .i64 y1] 42 (0, 0)) := by rw [hW_W]; (repeat (first | assumption | exact bk_new _ _ (by simp) | refine bk_drew ?_ | refine bk_alloc ?_ _ | refine bk_set ?_ (by simp <;> omega) _))
  have N3 : W.heap[M1]? = some (.cells #[.int .i64 P1, .int .i64 P2] 24 (0, 0)) := by rw [hW_W]; (repeat (first | assumption | exact bk_new _ _ (by simp) | refine bk_drew ?_ | refine bk_alloc ?_ _ | refine bk_set ?_ (by simp <;> omega) _))
  have N4 : W.heap[M2]? = some (.cells #[.int .i64 Q1, .int .i64 Q2] 24 (0, 0)) := by rw [hW_W]; (repeat (first | assumption | exact bk_new _ _ (by simp) | refine bk_drew ?_ | refine bk_alloc ?_ _ | refine bk_set ?_ (by simp <;> omega) _))
  obtain ⟨X, hX⟩ : ∃ X, w9.heap.size = X := ⟨_, rfl⟩
  rw [hX]
  have N5 : W.heap[X]? = some (.cells #[.string s, .int .i64 bung, .slice (some ⟨gb, 0, none⟩) n gc] 34 (0, 0)) := by rw [hW_W]; exact bk_new _ _ hX.symm
  have hown2 : OwnSt W gb (widL (widS bung y0 y1) ss 0) := by rw [hW_W, widL_zero]; exact hown.alloc _
  have hx2 : w.heap.size + 1 + 1 < x2.heap.size := hz0
  have hgw : w.heap.size + 1 + 1 < gb := by omega
  have hg3 : gb ≠ M1 ∧ gb ≠ M2 ∧ gb ≠ X ∧ gb ≠ w.heap.size ∧ gb ≠ w.heap.size + 1 ∧ gb ≠ w.heap.size + 1 + 1 := by
    have h1 := bk_size hz2
    obtain ⟨cur, h2, -⟩ := hown
    have h3 := bk_size h2
    omega
  obtain ⟨gm1, gm2, gm3, gm4, gm5, gm6⟩ := hg3
  clear hb hbw hW_W B0 B1 B2 B3 B4 C0 C1 C2 C3 C4 hown hz2 hX hV0 hV1 hOwn hC hS
  go_loopw [12] (fun i wr => ∃ k : Nat, k ≤ n ∧ i = .int .i64 k ∧ Below w.heap.size w wr ∧ wr.heap[w.heap.size]? = some (.cells #[.string s, .int .i64 bung, .slice A n c] 34 (0, 0)) ∧ wr.heap[w.heap.size + 1]? = some (.cells #[.int .i64 d0, .int .i64 d1] 42 (0, 0)) ∧ wr.heap[w.heap.size + 1 + 1]? = some (.cells #[.int .i64 y0, .int .i64 y1] 42 (0, 0)) ∧ wr.heap[M1]? = some (.cells #[.int .i64 P1, .int .i64 P2] 24 (0, 0)) ∧ wr.heap[M2]? = some (.cells #[.int .i64 Q1, .int .i64 Q2] 24 (0, 0)) ∧ wr.heap[X]? = some (.cells #[.string s, .int .i64 bung, .slice (some ⟨gb, 0, none⟩) n gc] 34 (0, 0)) ∧ OwnSt wr gb (widL (widS bung y0 y1) ss k)) (fun i _ => n - (intOf i).toNat)
  case atStart => exact ⟨0, by omega, rfl, hb_W, N0, N1, N2, N3, N4, N5, hown2⟩
  case round =>
    obtain ⟨k, hk, rfl, hbw, B0, B1, B2, B3, B4, B5, hown⟩ := hrel
    have C0 := bk3 B0
    have C1 := bk2 B1
    have C2 := bk2 B2
    have C3 := bk2 B3
    have C4 := bk2 B4
    have C5 := bk3 B5
    clear hb_W N0 N1 N2 N3 N4 N5 hown2
    by_cases hlt : k < n
    · obtain ⟨m, hm⟩ : ∃ m, ss[k]? = some m := ⟨_, List.getElem?_eq_getElem (by rw [hn0'.out]; exact hlt)⟩
      have hms := hSt.out m (List.mem_of_getElem? hm)
      have hw0 := widL_here (f := widS bung y0 y1) hm
      have hset := Lib.hid (widL_set (f := widS bung y0 y1) hm)
      obtain ⟨ma, mi, mo⟩ := m
      have hc := hown.cells hw0
      dsimp only at hc hms
      obtain ⟨U1, hU1⟩ : ∃ u, (if 10 < mi - y0 then mi - y0 else 10) = u := ⟨_, rfl⟩
      obtain ⟨U2, hU2⟩ : ∃ u, (if mo + y1 < bung then mo + y1 else bung) = u := ⟨_, rfl⟩
      have e1 : max 10 (mi - y0) = U1 := by rw [← hU1]; split <;> omega
      have e2 : min bung (mo + y1) = U2 := by rw [← hU2]; split <;> omega
      have hws : widS bung y0 y1 ⟨ma, mi, mo⟩ = ⟨ma, U1, U2⟩ := by unfold widS; dsimp only; rw [e1, e2]
      rw [hws] at hset
      have hown1 := Lib.hid hown
      have hw0' := Lib.hid hw0
      have hkn : (k : Int) < (n : Int) := by omega
      clear hown hw0 e1 e2 hm
      go_wp2_with fail
      refine region_in w 15 (by kernel_rfl) (by kernel_rfl) (by go_grown) ?_
      intro hgc hbx
      simp only [List.take_succ_cons, List.take_zero, List.drop_succ_cons, List.drop_zero]
      repeat (go_big_quiet_step (fail))
      refine wpQuiet_nil ?_
      intro wb hb_wb hw_wb hs_wb
      clear hgc hbx
      replace B0 := bk_keep hb_wb B0; replace C0 := bk3 B0; replace B1 := bk_keep hb_wb B1; replace C1 := bk2 B1; replace B2 := bk_keep hb_wb B2; replace C2 := bk2 B2; replace B3 := bk_keep hb_wb B3; replace C3 := bk2 B3; replace B4 := bk_keep hb_wb B4; replace C4 := bk2 B4; replace B5 := bk_keep hb_wb B5; replace C5 := bk3 B5
      have hc := (hown1.out.below hb_wb).cells hw0'.out
      have hown2 := Lib.hid (hown1.out.below hb_wb)
      dsimp only at hc
      clear hb_wb hbw hown1
      go_wp2_with fail
      refine wp_world ?_
      intro W4 hW_W4
      have hb_W4 : Below w.heap.size w W4 := by rw [hW_W4]; go_grown
      have N0 : W4.heap[w.heap.size]? = some (.cells #[.string s, .int .i64 bung, .slice A n c] 34 (0, 0)) := by rw [hW_W4]; exact bk_set B0 (by simp <;> omega) _
      have N1 : W4.heap[w.heap.size + 1]? = some (.cells #[.int .i64 d0, .int .i64 d1] 42 (0, 0)) := by rw [hW_W4]; exact bk_set B1 (by simp <;> omega) _
      have N2 : W4.heap[w.heap.size + 1 + 1]? = some (.cells #[.int .i64 y0, .int .i64 y1] 42 (0, 0)) := by rw [hW_W4]; exact bk_set B2 (by simp <;> omega) _
      have N3 : W4.heap[M1]? = some (.cells #[.int .i64 P1, .int .i64 P2] 24 (0, 0)) := by rw [hW_W4]; exact bk_set B3 (by simp <;> omega) _
      have N4 : W4.heap[M2]? = some (.cells #[.int .i64 Q1, .int .i64 Q2] 24 (0, 0)) := by rw [hW_W4]; exact bk_set B4 (by simp <;> omega) _
      have N5 : W4.heap[X]? = some (.cells #[.string s, .int .i64 bung, .slice (some ⟨gb, 0, none⟩) n gc] 34 (0, 0)) := by rw [hW_W4]; exact bk_set B5 (by simp <;> omega) _
      have hown3 := Lib.hid (hown2.out.put1 hw0'.out U1)
      dsimp only at hown3
      rw [← hW_W4] at hown3
      have hk3 : k < (widL (widS bung y0 y1) ss k).length := by rw [widL_len, hn0'.out]; exact hlt
      have hw1 := Lib.hid (List.getElem?_set_self (a := (⟨ma, U1, mo⟩ : St)) hk3)
      have hc := hown3.out.cells hw1.out
      dsimp only at hc
      clear hW_W4 hown2 B0 B1 B2 B3 B4 B5 C0 C1 C2 C3 C4 C5 hw_wb hs_wb
      have C0 := bk3 N0
      have C1 := bk2 N1
      have C2 := bk2 N2
      have C3 := bk2 N3
      have C4 := bk2 N4
      have C5 := bk3 N5
      refine region_in w 17 (by kernel_rfl) (by kernel_rfl) (by go_grown) ?_
      intro hgc hbx
      simp only [List.take_succ_cons, List.take_zero, List.drop_succ_cons, List.drop_zero]
      repeat (go_big_quiet_step (fail))
      refine wpQuiet_nil ?_
      intro wc hb_wc hw_wc hs_wc
      clear hgc hbx
      replace N0 := bk_keep hb_wc N0
      replace N1 := bk_keep hb_wc N1
      replace N2 := bk_keep hb_wc N2
      replace N3 := bk_keep hb_wc N3
      replace N4 := bk_keep hb_wc N4
      replace N5 := bk_keep hb_wc N5
      have hown4 := Lib.hid (hown3.out.below hb_wc)
      have hc := hown4.out.cells hw1.out
      dsimp only at hc
      clear hb_wc hown3 C0 C1 C2 C3 C4 C5 hb_W4
      have C0 := bk3 N0
      have C1 := bk2 N1
      have C2 := bk2 N2
      have C5 := bk3 N5
      go_wp2
      have hown5 := Lib.hid (hown4.out.put2 hw1.out U2)
      dsimp only at hown5
      rw [List.set_set, hset.out] at hown5
      go_roundw
      case rel => exact ⟨k + 1, by omega, by go_num, by go_grown, bk_set N0 (by simp; omega) _, bk_set N1 (by simp; omega) _, bk_set N2 (by simp; omega) _, bk_set N3 (by simp; omega) _, bk_set N4 (by simp; omega) _, bk_set N5 (by simp; omega) _, hown5.out⟩
      case measure => simp [intOf]; omega
    · have hkn : k = n := by omega
      subst hkn
      have hall := hown.at
      rw [← hn0'.out, widL_all] at hall
      have hVW2 := Lib.hid (fun W hb => hVW.out W _ _ hgc (hall.below hb))
      have hgt : ¬ (k : Int) < (k : Int) := by omega
      clear hown
      go_wp2_with (go_at_call 21; refine (hVW2.out _ (by go_grown)).mono ?_; rintro e w21 ⟨rfl, hb⟩; have hbw := via (by go_grown : Below w.heap.size w _) hb; replace B4 := bk_keep hb B4; replace C4 := bk2 B4; have hsw := hbw.size)
      go_ret
      exact ⟨rfl, by go_grown⟩
end Go.Proofs
