import Derived.Test.YtjfdjjekonkgjaaZi
set_option linter.unusedSimpArgs false
set_option linter.unusedVariables false
namespace Go.Proofs
open Go.RowKit

def volOfV (bung : Int) (ss : List St) (E : Int) : Int × Int := if E = 0 then toV bung (2 * bung) ss else (0, 0)
set_option maxRecDepth 100000 in
set_option maxHeartbeats 1000000 in
theorem volumeOf_any (s : ByteArray) (bung : Int) (A : Option Addr) (ss : List St) (c : Nat) (w : World) (hs : s.size ≤ 9223372036854775807) (hcap : ss.length ≤ c) (hat : At 3 St.cs w A ss) :
    Calls Try.prog 33 #[.agg #[.string s, .int .i64 bung, .slice A ss.length c]] w fun e w' =>
      e = .returned (.tuple #[.agg #[.int .i64 (volOfV bung ss (checkC s.data.toList bung ss).2).1, .int .i64 (volOfV bung ss (checkC s.data.toList bung ss).2).2], .int .i64 (checkC s.data.toList bung ss).2]) ∧ Below w.heap.size w w' := by
  unfold volOfV
  have hO := Lib.hid fun W hb => open_any s bung A ss c W hs (At.below hat hb)
  have hR : Hid ((checkC s.data.toList bung ss).2 = 0 → RightC bung ss) := fun h => rightC_of h
  have hat' := Lib.hid hat
  generalize (checkC s.data.toList bung ss).2 = E at *
  clear hat
  by_cases hz : E = 0
  · subst hz
    have hR1 := hR.out rfl
    have hbb := hR1.b
    have hT := Lib.hid fun W hb => to_any s bung (2 * bung) A ss c W hR1 (by omega) (by omega) hcap (At.below hat'.out hb)
    have hF := Lib.hid fun W => full_any s bung A ss.length c W
    rw [wrap_bung hR1] at hF
    rw [if_pos rfl]
    generalize toV bung (2 * bung) ss = T at *
    obtain ⟨T1, T2⟩ := T
    dsimp only at *
    clear hR hR1
    go_enter Try.func33, Try.ntmps33
    go_wp2_with (first | (go_at_call 69; refine (hO.out _ ?_).mono ?_; (· go_grown); rintro e w1 ⟨rfl, hb⟩; have hbw := via (by go_grown : Below w.heap.size w _) hb; have B1 : w1.heap[w.heap.size + 1]? = some (.cells #[.int .i64 0, .int .i64 0] 24 (0, 0)) := bk_keep hb (by (repeat (first | assumption | exact bk_new _ _ (by simp) | refine bk_drew ?_ | refine bk_alloc ?_ _ | refine bk_set ?_ (by simp <;> omega) _))); have C1 := bk2 B1))
    refine region_in w 4 (by kernel_rfl) (by kernel_rfl) (by go_grown) ?_
    intro hgc hbx
    simp only [List.take_succ_cons, List.take_zero, List.drop_succ_cons, List.drop_zero]
    repeat (go_big_quiet_step (first | (go_at_call 93; exact Grew.call (hF.out _)) | (go_at_call 73; exact Grew.call (hT.out _ (hbx.out _)))))
    refine wpQuiet_nil ?_
    intro w2 hb2 hw2 hs2
    clear hgc hbx
    replace B1 := bk_keep hb2 (bk_alloc B1 _)
    replace C1 := bk2 B1
    go_wp2
    refine bodyPost_ret (v := .tuple #[.agg #[.int .i64 T1, .int .i64 T2], .int .i64 0]) ?_ rfl ⟨rfl, ?_⟩
    · simp [results, Try.results33, go_sem, C1]
    · go_grown
  · rw [if_neg hz]
    have z2 : (E != 0) = true := by simpa using hz
    clear hz hR
    go_enter Try.func33, Try.ntmps33
    go_wp2_with (first | (go_at_call 69; refine (hO.out _ ?_).mono ?_; (· go_grown); rintro e w1 ⟨rfl, hb⟩; have hbw := via (by go_grown : Below w.heap.size w _) hb; have B1 : w1.heap[w.heap.size + 1]? = some (.cells #[.int .i64 0, .int .i64 0] 24 (0, 0)) := bk_keep hb (by (repeat (first | assumption | exact bk_new _ _ (by simp) | refine bk_drew ?_ | refine bk_alloc ?_ _ | refine bk_set ?_ (by simp <;> omega) _))); have C1 := bk2 B1))
    refine bodyPost_ret (v := .tuple #[.agg #[.int .i64 0, .int .i64 0], .int .i64 E]) ?_ rfl ⟨rfl, ?_⟩
    · simp [results, Try.results33, go_sem, C1]
    · go_grown

set_option maxRecDepth 100000 in
set_option maxHeartbeats 2000000 in
theorem gaugeCasks_walk (w : World) (s : ByteArray) (bung : Int) (A : Option Addr) (ss : List St) (c : Nat) (hs : s.size ≤ 9223372036854775807) (hb1 : -9223372036854775808 ≤ bung) (hb2 : bung ≤ 9223372036854775807)
    (hat : At 3 St.cs w A ss) (hl : ss.length ≤ c) (hn : A = none → c = 0) :
    Calls Try.prog 7 #[.agg #[.string s, .int .i64 bung, .slice A ss.length c]] w fun e w' => e = .returned (.bool true) ∧ Below w.heap.size w w' := by
  obtain ⟨n, hn0⟩ : ∃ n, ss.length = n := ⟨_, rfl⟩
  have hS := Lib.hid fun W => small_any s bung A n c W
  cases hsm : smallB s.size n bung
  · rw [hsm] at hS
    rw [hn0]
    clear hsm hn0
    go_enter Try.func7, Try.ntmps7
    go_wp2_with (first | (go_at_call 15; refine (awake_any _).mono ?_; rintro e w1 ⟨rfl, hb⟩; have hbw := via (by go_grown : Below w.heap.size w _) hb; have B0 : w1.heap[w.heap.size]? = some (.cells #[.string s, .int .i64 bung, .slice A n c] 34 (0, 0)) := bk_keep hb (by (repeat (first | assumption | exact bk_new _ _ (by simp) | refine bk_drew ?_ | refine bk_alloc ?_ _ | refine bk_set ?_ (by simp <;> omega) _))); have C0 := bk3 B0) | (go_at_call 20; refine (hS.out _).mono ?_; rintro e w2 ⟨rfl, hb⟩; have hbw := via (by go_grown : Below w.heap.size w _) hb; replace B0 := bk_keep hb B0; replace C0 := bk3 B0))
    go_ret
    exact ⟨rfl, hbw⟩
  rw [hsm] at hS
  obtain ⟨g1, g2, g3⟩ := small_len hsm
  have hC := Lib.hid fun W (hw : Below w.heap.size w W) => copyCask_any s bung A ss c W (by omega) hn (At.below hat hw)
  have hV := Lib.hid fun W A' c' (hc : ss.length ≤ c') (ha : At 3 St.cs W A' ss) => volumeOf_any s bung A' ss c' W hs hc ha
  have hK := Lib.hid fun W A' c' (ha : At 3 St.cs W A' ss) => checkCask_any s bung A' ss c' W hs ha
  have hE := Lib.hid fun W (hw : Below w.heap.size w W) => refCheckCask_any s bung A ss c W hs (At.below hat hw)
  rw [hn0] at hC hE hl ⊢
  simp only [hn0] at hV hK
  unfold volOfV at hV
  have hErr : Hid ((checkC s.data.toList bung ss).2 = 0 → RightC bung ss) := fun h => rightC_of h
  have hat' := Lib.hid hat
  have hn0' := Lib.hid hn0
  clear hn hsm hat hn0 g1 g2 g3
  generalize checkC s.data.toList bung ss = X at *
  obtain ⟨N, E⟩ := X
  dsimp only at *
  have zz : ∀ x : Int, (x != x) = false := fun x => by simp
  have z3 := zz E
  have z4 := zz N
  clear zz
  by_cases hz : E = 0
  case neg =>
    rw [if_neg hz] at hV
    have z1 : (E == 0) = false := by simpa using hz
    have z2 : (E != 0) = true := by simpa using hz
    clear hz hErr
    go_enter Try.func7, Try.ntmps7
    go_wp2_with (first | (go_at_call 15; refine (awake_any _).mono ?_; rintro e w1 ⟨rfl, hb⟩; have hbw := via (by go_grown : Below w.heap.size w _) hb; have B0 : w1.heap[w.heap.size]? = some (.cells #[.string s, .int .i64 bung, .slice A n c] 34 (0, 0)) := bk_keep hb (by (repeat (first | assumption | exact bk_new _ _ (by simp) | refine bk_drew ?_ | refine bk_alloc ?_ _ | refine bk_set ?_ (by simp <;> omega) _))); have C0 := bk3 B0) | (go_at_call 20; refine (hS.out _).mono ?_; rintro e w2 ⟨rfl, hb⟩; have hbw := via (by go_grown : Below w.heap.size w _) hb; replace B0 := bk_keep hb B0; replace C0 := bk3 B0) | (go_at_call 22; refine (hC.out _ hbw).mono ?_; rintro e w3 ⟨⟨A3, c3, rfl, hat3, hc3⟩, hb⟩; have hbw := via (by go_grown : Below w.heap.size w _) hb; replace B0 := bk_keep hb B0; replace C0 := bk3 B0) | (go_at_call 32; refine (hK.out _ _ _ hat3).mono ?_; rintro e w4 ⟨rfl, hb⟩; have hbw := via (by go_grown : Below w.heap.size w _) hb; replace B0 := bk_keep hb B0; replace C0 := bk3 B0) | (go_at_call 33; refine (hV.out _ _ _ hc3 hat3).mono ?_; rintro e w5 ⟨rfl, hb⟩; have hbw := via (by go_grown : Below w.heap.size w _) hb; replace B0 := bk_keep hb B0; replace C0 := bk3 B0) | (go_at_call 34; refine (hE.out _ ?_).mono ?_; (· go_grown); rintro e w6 ⟨rfl, hb⟩; have hbw := via (by go_grown : Below w.heap.size w _) hb; have B1 : w6.heap[w5.heap.size]? = some (.cells #[.int .i64 0, .int .i64 0] 24 (0, 0)) := bk_keep hb (by (repeat (first | assumption | exact bk_new _ _ (by simp) | refine bk_drew ?_ | refine bk_alloc ?_ _ | refine bk_set ?_ (by simp <;> omega) _))); have C1 := bk2 B1; replace B0 := bk_keep hb (bk_alloc B0 _); replace C0 := bk3 B0))
    refine region_all w (by kernel_rfl) (by kernel_rfl) (by go_grown) ?_
    intro hgc hbx
    repeat (go_big_quiet_step (fail))
    refine wpQuiet_nil ?_
    intro w7 hb7 hbw7 hsz7
    clear hgc hbx
    go_wp2
    go_ret
    exact ⟨rfl, by go_grown⟩
  subst hz
  have hR := hErr.out rfl
  have hb := hR.b
  have hT := Lib.hid fun W (hw : Below w.heap.size w W) => refVolumeTo_any s bung (2 * bung) A ss c W hR (by omega) (by omega) (At.below hat'.out hw)
  rw [hn0'.out] at hT
  rw [if_pos rfl] at hV
  have hw2 : IntKind.i64.wrap (2 * bung) = 2 * bung := IntWalk.i64_in _ (by omega)
  clear hR hErr
  generalize toV bung (2 * bung) ss = T at *
  obtain ⟨T1, T2⟩ := T
  dsimp only at *
  go_enter Try.func7, Try.ntmps7
  go_wp2_with (first | (go_at_call 15; refine (awake_any _).mono ?_; rintro e w1 ⟨rfl, hb⟩; have hbw := via (by go_grown : Below w.heap.size w _) hb; have B0 : w1.heap[w.heap.size]? = some (.cells #[.string s, .int .i64 bung, .slice A n c] 34 (0, 0)) := bk_keep hb (by (repeat (first | assumption | exact bk_new _ _ (by simp) | refine bk_drew ?_ | refine bk_alloc ?_ _ | refine bk_set ?_ (by simp <;> omega) _))); have C0 := bk3 B0) | (go_at_call 20; refine (hS.out _).mono ?_; rintro e w2 ⟨rfl, hb⟩; have hbw := via (by go_grown : Below w.heap.size w _) hb; replace B0 := bk_keep hb B0; replace C0 := bk3 B0) | (go_at_call 22; refine (hC.out _ hbw).mono ?_; rintro e w3 ⟨⟨A3, c3, rfl, hat3, hc3⟩, hb⟩; have hbw := via (by go_grown : Below w.heap.size w _) hb; replace B0 := bk_keep hb B0; replace C0 := bk3 B0) | (go_at_call 32; refine (hK.out _ _ _ hat3).mono ?_; rintro e w4 ⟨rfl, hb⟩; have hbw := via (by go_grown : Below w.heap.size w _) hb; replace B0 := bk_keep hb B0; replace C0 := bk3 B0) | (go_at_call 33; refine (hV.out _ _ _ hc3 hat3).mono ?_; rintro e w5 ⟨rfl, hb⟩; have hbw := via (by go_grown : Below w.heap.size w _) hb; replace B0 := bk_keep hb B0; replace C0 := bk3 B0) | (go_at_call 34; refine (hE.out _ ?_).mono ?_; (· go_grown); rintro e w6 ⟨rfl, hb⟩; have hbw := via (by go_grown : Below w.heap.size w _) hb; have B1 : w6.heap[w5.heap.size]? = some (.cells #[.int .i64 T1, .int .i64 T2] 24 (0, 0)) := bk_keep hb (by (repeat (first | assumption | exact bk_new _ _ (by simp) | refine bk_drew ?_ | refine bk_alloc ?_ _ | refine bk_set ?_ (by simp <;> omega) _))); have C1 := bk2 B1; replace B0 := bk_keep hb (bk_alloc B0 _); replace C0 := bk3 B0))
  refine region_all w (by kernel_rfl) (by kernel_rfl) (by go_grown) ?_
  intro hgc hbx
  repeat (go_big_quiet_step ((go_at_call 25; exact Grew.call (hT.out _ (hbx.out _)))))
  refine wpQuiet_nil ?_
  intro w7 hb7 hbw7 hsz7
  clear hgc hbx
  go_wp2
  go_ret
  exact ⟨rfl, by go_grown⟩
end Go.Proofs
