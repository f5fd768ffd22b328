import Derived.Test.YtjfdjjekonkgjaaZg
import Derived.Test.YtjfdjjekonkgjaaZh
set_option linter.unusedSimpArgs false
set_option linter.unusedVariables false
namespace Go.Proofs
open Go.RowKit

theorem caskErr_any (s : ByteArray) (bung : Int) (A : Option Addr) (ss : List St) (c : Nat) (w : World) (hs : s.size ≤ 9223372036854775807) (hat : At 3 St.cs w A ss) :
    Calls Try.prog 23 #[.agg #[.string s, .int .i64 bung, .slice A ss.length c]] w fun e w' =>
      e = .returned (.int .i64 (checkC s.data.toList bung ss).2) ∧ Below w.heap.size w w' := by
  have hC := Lib.hid fun W hb => refCheckCask_any s bung A ss c W hs (At.below hat hb)
  generalize checkC s.data.toList bung ss = r at hC ⊢
  obtain ⟨i1, e1⟩ := r
  dsimp only at hC ⊢
  clear hs hat
  go_enter Try.func23, Try.ntmps23
  go_wp2_with (go_at_call 34; refine (hC.out _ ?_).mono ?_; (· go_grown); rintro e w1 ⟨rfl, hb⟩; have hbw := via (by go_grown : Below w.heap.size w _) hb)
  go_ret
  exact ⟨rfl, hbw⟩

theorem small_len {s n : Nat} {bung : Int} (h : smallB s n bung = true) : s ≤ 20 ∧ n ≤ 14 ∧ (bung ≤ 60 ∨ 800 < bung) := by
  unfold smallB at h
  simp only [Bool.and_eq_true, Bool.or_eq_true, decide_eq_true_eq] at h
  omega
theorem wrap_bung {bung : Int} {ss : List St} (h : RightC bung ss) : wrap64 (2 * bung) = 2 * bung := by
  have := h.b
  unfold wrap64
  omega

set_option maxRecDepth 100000 in
set_option maxHeartbeats 2000000 in
theorem gaugeVolumes_walk (w : World) (s : ByteArray) (bung : Int) (A : Option Addr) (ss : List St) (c : Nat) (hs : s.size ≤ 9223372036854775807) (hb1 : -9223372036854775808 ≤ bung) (hb2 : bung ≤ 9223372036854775807)
    (hat : At 3 St.cs w A ss) (hl : ss.length ≤ c) (hn : A = none → c = 0) (dip : Int) (hd1 : -9223372036854775808 ≤ dip) (hd2 : dip ≤ 9223372036854775807) :
    Calls Try.prog 4 #[.agg #[.string s, .int .i64 bung, .slice A ss.length c], .int .i64 dip] w fun e w' => e = .returned (.bool true) ∧ Below w.heap.size w w' := by
  obtain ⟨n, hn0⟩ : ∃ n, ss.length = n := ⟨_, rfl⟩
  have hS := Lib.hid fun W => small_any s bung A n c W
  cases hsm : smallB s.size n bung
  · rw [hsm] at hS
    rw [hn0]
    clear hsm hn0
    go_enter Try.func4, Try.ntmps4
    go_wp2_with (first | (go_at_call 15; refine (awake_any _).mono ?_; rintro e w1 ⟨rfl, hb⟩; have hbw := via (by go_grown : Below w.heap.size w _) hb; have B0 : w1.heap[w.heap.size]? = some (.cells #[.string s, .int .i64 bung, .slice A n c] 34 (0, 0)) := bk_keep hb (by (repeat (first | assumption | exact bk_new _ _ (by simp) | refine bk_drew ?_ | refine bk_alloc ?_ _ | refine bk_set ?_ (by simp <;> omega) _))); have C0 := bk3 B0) | (go_at_call 20; refine (hS.out _).mono ?_; rintro e w2 ⟨rfl, hb⟩; have hbw := via (by go_grown : Below w.heap.size w _) hb; replace B0 := bk_keep hb B0; replace C0 := bk3 B0))
    go_ret
    exact ⟨rfl, hbw⟩
  rw [hsm] at hS
  obtain ⟨g1, g2, g3⟩ := small_len hsm
  have hC := Lib.hid fun W (hw : Below w.heap.size w W) => copyCask_any s bung A ss c W (by omega) hn (At.below hat hw)
  have hV := Lib.hid fun W A' c' (hc : ss.length ≤ c') (ha : At 3 St.cs W A' ss) => volumeTo_any s bung A' ss c' dip W hs hc ha
  have hE := Lib.hid fun W (hw : Below w.heap.size w W) => caskErr_any s bung A ss c W hs (At.below hat hw)
  rw [hn0] at hC hE hl ⊢
  simp only [hn0] at hV
  unfold volToV at hV
  have hErr : Hid ((checkC s.data.toList bung ss).2 = 0 → RightC bung ss) := fun h => rightC_of h
  have hvE : Hid (volToE s.data.toList bung ss dip = firstE [(checkC s.data.toList bung ss).2, unl (within dip 0 (wrap64 (2 * bung))) 2]) := rfl
  rw [hvE.out] at hV
  have hat' := Lib.hid hat
  have hn0' := Lib.hid hn0
  clear hn hvE hsm hat hn0 g1 g2 g3
  generalize (checkC s.data.toList bung ss).2 = E at *
  by_cases hz : E = 0
  case neg =>
    have e1 : firstE [E, unl (within dip 0 (wrap64 (2 * bung))) 2] = E := by simp [firstE, hz]
    rw [e1, if_neg hz] at hV
    have z1 : (E == 0) = false := by simpa using hz
    have z2 : (E != 0) = true := by simpa using hz
    have z3 : (E == E) = true := by simp
    clear hz e1 hErr
    go_enter Try.func4, Try.ntmps4
    go_wp2_with (first | (go_at_call 15; refine (awake_any _).mono ?_; rintro e w1 ⟨rfl, hb⟩; have hbw := via (by go_grown : Below w.heap.size w _) hb; have B0 : w1.heap[w.heap.size]? = some (.cells #[.string s, .int .i64 bung, .slice A n c] 34 (0, 0)) := bk_keep hb (by (repeat (first | assumption | exact bk_new _ _ (by simp) | refine bk_drew ?_ | refine bk_alloc ?_ _ | refine bk_set ?_ (by simp <;> omega) _))); have C0 := bk3 B0) | (go_at_call 20; refine (hS.out _).mono ?_; rintro e w2 ⟨rfl, hb⟩; have hbw := via (by go_grown : Below w.heap.size w _) hb; replace B0 := bk_keep hb B0; replace C0 := bk3 B0) | (go_at_call 22; refine (hC.out _ hbw).mono ?_; rintro e w3 ⟨⟨A3, c3, rfl, hat3, hc3⟩, hb⟩; have hbw := via (by go_grown : Below w.heap.size w _) hb; replace B0 := bk_keep hb B0; replace C0 := bk3 B0) | (go_at_call 21; refine (hV.out _ _ _ hc3 hat3).mono ?_; rintro e w4 ⟨rfl, hb⟩; have hbw := via (by go_grown : Below w.heap.size w _) hb; replace B0 := bk_keep hb B0; replace C0 := bk3 B0) | (go_at_call 23; refine (hE.out _ ?_).mono ?_; (· go_grown); rintro e w5 ⟨rfl, hb⟩; have hbw := via (by go_grown : Below w.heap.size w _) hb; have B1 : w5.heap[w4.heap.size]? = some (.cells #[.int .i64 0, .int .i64 0] 24 (0, 0)) := bk_keep hb (by (repeat (first | assumption | exact bk_new _ _ (by simp) | refine bk_drew ?_ | refine bk_alloc ?_ _ | refine bk_set ?_ (by simp <;> omega) _))); have C1 := bk2 B1; replace B0 := bk_keep hb (bk_alloc B0 _); replace C0 := bk3 B0))
    go_ret
    exact ⟨rfl, by go_grown⟩
  subst hz
  have hR := hErr.out rfl
  have hb := hR.b
  rw [wrap_bung hR] at hV
  have hD := Lib.hid fun W => refDipErr_any s bung dip A n c W (by omega) (by omega)
  have e0 : ∀ x, firstE [0, x] = x := fun x => by by_cases hx : x = 0 <;> simp [firstE, hx]
  rw [e0] at hV
  clear e0 hErr
  cases hd : within dip 0 (2 * bung)
  · rw [hd] at hV hD
    have e1 : unl false 2 = 2 := rfl
    rw [e1, if_neg (by decide)] at hV
    rw [e1] at hD
    clear e1 hd
    go_enter Try.func4, Try.ntmps4
    go_wp2_with (first | (go_at_call 15; refine (awake_any _).mono ?_; rintro e w1 ⟨rfl, hb⟩; have hbw := via (by go_grown : Below w.heap.size w _) hb; have B0 : w1.heap[w.heap.size]? = some (.cells #[.string s, .int .i64 bung, .slice A n c] 34 (0, 0)) := bk_keep hb (by (repeat (first | assumption | exact bk_new _ _ (by simp) | refine bk_drew ?_ | refine bk_alloc ?_ _ | refine bk_set ?_ (by simp <;> omega) _))); have C0 := bk3 B0) | (go_at_call 20; refine (hS.out _).mono ?_; rintro e w2 ⟨rfl, hb⟩; have hbw := via (by go_grown : Below w.heap.size w _) hb; replace B0 := bk_keep hb B0; replace C0 := bk3 B0) | (go_at_call 22; refine (hC.out _ hbw).mono ?_; rintro e w3 ⟨⟨A3, c3, rfl, hat3, hc3⟩, hb⟩; have hbw := via (by go_grown : Below w.heap.size w _) hb; replace B0 := bk_keep hb B0; replace C0 := bk3 B0) | (go_at_call 21; refine (hV.out _ _ _ hc3 hat3).mono ?_; rintro e w4 ⟨rfl, hb⟩; have hbw := via (by go_grown : Below w.heap.size w _) hb; replace B0 := bk_keep hb B0; replace C0 := bk3 B0) | (go_at_call 23; refine (hE.out _ ?_).mono ?_; (· go_grown); rintro e w5 ⟨rfl, hb⟩; have hbw := via (by go_grown : Below w.heap.size w _) hb; have B1 : w5.heap[w4.heap.size]? = some (.cells #[.int .i64 0, .int .i64 0] 24 (0, 0)) := bk_keep hb (by (repeat (first | assumption | exact bk_new _ _ (by simp) | refine bk_drew ?_ | refine bk_alloc ?_ _ | refine bk_set ?_ (by simp <;> omega) _))); have C1 := bk2 B1; replace B0 := bk_keep hb (bk_alloc B0 _); replace C0 := bk3 B0) | (go_at_call 24; refine (hD.out _).mono ?_; rintro e w6 ⟨rfl, hb⟩; have hbw := via (by go_grown : Below w.heap.size w _) hb; replace B1 := bk_keep hb B1; replace C1 := bk2 B1; replace B0 := bk_keep hb B0; replace C0 := bk3 B0))
    go_ret
    exact ⟨rfl, by go_grown⟩
  · obtain ⟨d1, d2⟩ := within_true hd
    have hT := Lib.hid fun W (hw : Below w.heap.size w W) => refVolumeTo_any s bung dip A ss c W hR d1 d2 (At.below hat'.out hw)
    rw [hn0'.out] at hT
    rw [hd] at hV hD
    have e1 : unl true 2 = 0 := rfl
    rw [e1, if_pos rfl] at hV
    rw [e1] at hD
    clear e1 hd hR
    generalize toV bung dip ss = T at *
    obtain ⟨T1, T2⟩ := T
    dsimp only at *
    go_enter Try.func4, Try.ntmps4
    go_wp2_with (first | (go_at_call 15; refine (awake_any _).mono ?_; rintro e w1 ⟨rfl, hb⟩; have hbw := via (by go_grown : Below w.heap.size w _) hb; have B0 : w1.heap[w.heap.size]? = some (.cells #[.string s, .int .i64 bung, .slice A n c] 34 (0, 0)) := bk_keep hb (by (repeat (first | assumption | exact bk_new _ _ (by simp) | refine bk_drew ?_ | refine bk_alloc ?_ _ | refine bk_set ?_ (by simp <;> omega) _))); have C0 := bk3 B0) | (go_at_call 20; refine (hS.out _).mono ?_; rintro e w2 ⟨rfl, hb⟩; have hbw := via (by go_grown : Below w.heap.size w _) hb; replace B0 := bk_keep hb B0; replace C0 := bk3 B0) | (go_at_call 22; refine (hC.out _ hbw).mono ?_; rintro e w3 ⟨⟨A3, c3, rfl, hat3, hc3⟩, hb⟩; have hbw := via (by go_grown : Below w.heap.size w _) hb; replace B0 := bk_keep hb B0; replace C0 := bk3 B0) | (go_at_call 21; refine (hV.out _ _ _ hc3 hat3).mono ?_; rintro e w4 ⟨rfl, hb⟩; have hbw := via (by go_grown : Below w.heap.size w _) hb; replace B0 := bk_keep hb B0; replace C0 := bk3 B0) | (go_at_call 23; refine (hE.out _ ?_).mono ?_; (· go_grown); rintro e w5 ⟨rfl, hb⟩; have hbw := via (by go_grown : Below w.heap.size w _) hb; have B1 : w5.heap[w4.heap.size]? = some (.cells #[.int .i64 T1, .int .i64 T2] 24 (0, 0)) := bk_keep hb (by (repeat (first | assumption | exact bk_new _ _ (by simp) | refine bk_drew ?_ | refine bk_alloc ?_ _ | refine bk_set ?_ (by simp <;> omega) _))); have C1 := bk2 B1; replace B0 := bk_keep hb (bk_alloc B0 _); replace C0 := bk3 B0) | (go_at_call 24; refine (hD.out _).mono ?_; rintro e w6 ⟨rfl, hb⟩; have hbw := via (by go_grown : Below w.heap.size w _) hb; replace B1 := bk_keep hb B1; replace C1 := bk2 B1; replace B0 := bk_keep hb B0; replace C0 := bk3 B0))
    refine region_all w (by kernel_rfl) (by kernel_rfl) (by go_grown) ?_
    intro hgc hbx
    repeat (go_big_quiet_step ((go_at_call 25; exact Grew.call (hT.out _ (hbx.out _)))))
    refine wpQuiet_nil ?_
    intro w7 hb7 hbw7 hsz7
    clear hgc hbx
    go_wp2
    go_ret
    exact ⟨rfl, by go_grown⟩
end Go.Proofs
