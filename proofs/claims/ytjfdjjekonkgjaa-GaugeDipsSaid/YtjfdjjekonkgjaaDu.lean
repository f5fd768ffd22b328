import Derived.Test.YtjfdjjekonkgjaaDt
set_option linter.unusedSimpArgs false
set_option linter.unusedVariables false
namespace Go.Proofs
open Go.RowKit

set_option maxRecDepth 100000 in
set_option maxHeartbeats 2000000 in
theorem gaugeDips_walk (w : World) (s : ByteArray) (bung : Int) (A : Option Addr) (ss : List St) (c : Nat) (hs : s.size ≤ 9223372036854775807) (hb1 : -9223372036854775808 ≤ bung) (hb2 : bung ≤ 9223372036854775807)
    (hat : At 3 St.cs w A ss) (hl : ss.length ≤ c) (hn : A = none → c = 0) (vol : Int) (hd1 : -9223372036854775808 ≤ vol) (hd2 : vol ≤ 9223372036854775807) :
    Calls Try.prog 11 #[.agg #[.string s, .int .i64 bung, .slice A ss.length c], .int .i64 vol] w fun e w' => e = .returned (.bool true) ∧ Below w.heap.size w w' := by
  obtain ⟨n, hn0⟩ : ∃ n, ss.length = n := ⟨_, rfl⟩
  have hS := Lib.hid fun W => small_any s bung A n c W
  cases hsm : smallB s.size n bung
  · rw [hsm] at hS
    rw [hn0]
    clear hsm hn0
    go_enter Try.func11, Try.ntmps11
    go_wp2_with (first | (go_at_call 15; refine (awake_any _).mono ?_; rintro e w1 ⟨rfl, hb⟩; have hbw := via (by go_grown : Below w.heap.size w _) hb; have B0 : w1.heap[w.heap.size]? = some (.cells #[.string s, .int .i64 bung, .slice A n c] 34 (0, 0)) := bk_keep hb (by (repeat (first | assumption | exact bk_new _ _ (by simp) | refine bk_drew ?_ | refine bk_alloc ?_ _ | refine bk_set ?_ (by simp <;> omega) _))); have C0 := bk3 B0) | (go_at_call 20; refine (hS.out _).mono ?_; rintro e w2 ⟨rfl, hb⟩; have hbw := via (by go_grown : Below w.heap.size w _) hb; replace B0 := bk_keep hb B0; replace C0 := bk3 B0))
    go_ret
    exact ⟨rfl, hbw⟩
  rw [hsm] at hS
  obtain ⟨g1, g2, g3⟩ := small_len hsm
  have hC := Lib.hid fun W (hw : Below w.heap.size w W) => copyCask_any s bung A ss c W (by omega) hn (At.below hat hw)
  have hE := Lib.hid fun W (hw : Below w.heap.size w W) => caskErr_any s bung A ss c W hs (At.below hat hw)
  have hErr : Hid ((checkC s.data.toList bung ss).2 = 0 → RightC bung ss) := fun h => rightC_of h
  have hat' := Lib.hid hat
  have hn0' := Lib.hid hn0
  rw [hn0] at hC hE hl ⊢
  have hV := Lib.hid fun W A' c' (hc : ss.length ≤ c') (ha : At 3 St.cs W A' ss) => dipOf_any s bung A' ss c' vol W hs hc ha
  simp only [hn0] at hV
  unfold dipOfV at hV
  clear hn hsm hat hn0 g1 g2 g3
  generalize (checkC s.data.toList bung ss).2 = E at *
  by_cases hz : E = 0
  case neg =>
    rw [if_neg hz] at hV
    have z1 : (E == 0) = false := by simpa using hz
    have z3 : (E == E) = true := by simp
    clear hz hErr
    go_enter Try.func11, Try.ntmps11
    go_wp2_with (first | (go_at_call 15; refine (awake_any _).mono ?_; rintro e w1 ⟨rfl, hb⟩; have hbw := via (by go_grown : Below w.heap.size w _) hb; have B0 : w1.heap[w.heap.size]? = some (.cells #[.string s, .int .i64 bung, .slice A n c] 34 (0, 0)) := bk_keep hb (by (repeat (first | assumption | exact bk_new _ _ (by simp) | refine bk_drew ?_ | refine bk_alloc ?_ _ | refine bk_set ?_ (by simp <;> omega) _))); have C0 := bk3 B0) | (go_at_call 20; refine (hS.out _).mono ?_; rintro e w2 ⟨rfl, hb⟩; have hbw := via (by go_grown : Below w.heap.size w _) hb; replace B0 := bk_keep hb B0; replace C0 := bk3 B0) | (go_at_call 22; refine (hC.out _ hbw).mono ?_; rintro e w3 ⟨⟨A3, c3, rfl, hat3, hc3⟩, hb⟩; have hbw := via (by go_grown : Below w.heap.size w _) hb; replace B0 := bk_keep hb B0; replace C0 := bk3 B0) | (go_at_call 45; refine (hV.out _ _ _ hc3 hat3).mono ?_; rintro e w4 ⟨rfl, hb⟩; have hbw := via (by go_grown : Below w.heap.size w _) hb; replace B0 := bk_keep hb B0; replace C0 := bk3 B0) | (go_at_call 23; refine (hE.out _ ?_).mono ?_; (· go_grown); rintro e w5 ⟨rfl, hb⟩; have hbw := via (by go_grown : Below w.heap.size w _) hb; have B1 : w5.heap[w4.heap.size]? = some (.cells #[.int .i64 0, .int .i64 0] 24 (0, 0)) := bk_keep hb (by (repeat (first | assumption | exact bk_new _ _ (by simp) | refine bk_drew ?_ | refine bk_alloc ?_ _ | refine bk_set ?_ (by simp <;> omega) _))); have C1 := bk2 B1; replace B0 := bk_keep hb (bk_alloc B0 _); replace C0 := bk3 B0))
    go_ret
    exact ⟨rfl, by go_grown⟩
  subst hz
  rw [if_pos rfl] at hV
  have hR := hErr.out rfl
  have hT := Lib.hid fun W (hw : Below w.heap.size w W) => refDipOf_any s bung A ss c vol W hR (At.below hat'.out hw)
  rw [hn0'.out] at hT
  clear hR hErr
  generalize dipV bung ss vol = T at *
  obtain ⟨⟨T1, T2⟩, T3⟩ := T
  dsimp only at *
  have z3 : (T3 == T3) = true := by simp
  go_enter Try.func11, Try.ntmps11
  go_wp2_with (first | (go_at_call 15; refine (awake_any _).mono ?_; rintro e w1 ⟨rfl, hb⟩; have hbw := via (by go_grown : Below w.heap.size w _) hb; have B0 : w1.heap[w.heap.size]? = some (.cells #[.string s, .int .i64 bung, .slice A n c] 34 (0, 0)) := bk_keep hb (by (repeat (first | assumption | exact bk_new _ _ (by simp) | refine bk_drew ?_ | refine bk_alloc ?_ _ | refine bk_set ?_ (by simp <;> omega) _))); have C0 := bk3 B0) | (go_at_call 20; refine (hS.out _).mono ?_; rintro e w2 ⟨rfl, hb⟩; have hbw := via (by go_grown : Below w.heap.size w _) hb; replace B0 := bk_keep hb B0; replace C0 := bk3 B0) | (go_at_call 22; refine (hC.out _ hbw).mono ?_; rintro e w3 ⟨⟨A3, c3, rfl, hat3, hc3⟩, hb⟩; have hbw := via (by go_grown : Below w.heap.size w _) hb; replace B0 := bk_keep hb B0; replace C0 := bk3 B0) | (go_at_call 45; refine (hV.out _ _ _ hc3 hat3).mono ?_; rintro e w4 ⟨rfl, hb⟩; have hbw := via (by go_grown : Below w.heap.size w _) hb; replace B0 := bk_keep hb B0; replace C0 := bk3 B0) | (go_at_call 23; refine (hE.out _ ?_).mono ?_; (· go_grown); rintro e w5 ⟨rfl, hb⟩; have hbw := via (by go_grown : Below w.heap.size w _) hb; have B1 : w5.heap[w4.heap.size]? = some (.cells #[.int .i64 T1, .int .i64 T2] 24 (0, 0)) := bk_keep hb (by (repeat (first | assumption | exact bk_new _ _ (by simp) | refine bk_drew ?_ | refine bk_alloc ?_ _ | refine bk_set ?_ (by simp <;> omega) _))); have C1 := bk2 B1; replace B0 := bk_keep hb (bk_alloc B0 _); replace C0 := bk3 B0) | (go_at_call 46; refine (hT.out _ ?_).mono ?_; (· go_grown); rintro e w6 ⟨rfl, hb⟩; have hz45 := bk_size B1; have hz05 := bk_size B0; have hn1 : w4.heap.size ≠ w5.heap.size := Nat.ne_of_lt hz45; have hn2 : w5.heap.size ≠ w4.heap.size := Nat.ne_of_gt hz45; have hbw := via (by go_grown : Below w.heap.size w _) hb; have B2 : w6.heap[w5.heap.size]? = some (.cells #[.int .i64 0, .int .i64 0] 24 (0, 0)) := bk_keep hb (by (repeat (first | assumption | exact bk_new _ _ (by simp) | refine bk_drew ?_ | refine bk_alloc ?_ _ | refine bk_set ?_ (by simp <;> omega) _))); have C2 := bk2 B2; replace B0 := bk_keep hb (bk_alloc B0 _); replace C0 := bk3 B0; replace B1 := bk_keep hb (bk_alloc B1 _); replace C1 := bk2 B1))
  go_ret
  exact ⟨rfl, by go_grown⟩
end Go.Proofs
