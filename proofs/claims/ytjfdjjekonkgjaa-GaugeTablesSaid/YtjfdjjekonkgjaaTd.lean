import Derived.Test.YtjfdjjekonkgjaaTc
set_option linter.unusedSimpArgs false
set_option linter.unusedVariables false
namespace Go.Proofs
open Go.RowKit

def refFromV (s : ByteArray) (bung : Int) (ss : List St) (day dip wrong : Int) : Rd × Int := if (within day 0 100000 && within dip 0 (2 * bung) && within wrong 0 (2 * bung)) = true then fromV s bung ss day dip wrong else (Rd.zero, 2)
set_option maxRecDepth 100000 in
set_option maxHeartbeats 4000000 in
theorem refFromDip_any (s : ByteArray) (bung : Int) (A : Option Addr) (ss : List St) (c : Nat) (day dip wrong : Int) (w : World) (hR : RightC bung ss) (hat : At 3 St.cs w A ss) :
    Calls Try.prog 43 #[.agg #[.string s, .int .i64 bung, .slice A ss.length c], .agg #[.int .i64 day, .int .i64 dip, .int .i64 wrong]] w fun e w' =>
      e = .returned (.tuple #[rdv (refFromV s bung ss day dip wrong).1, .int .i64 (refFromV s bung ss day dip wrong).2]) ∧ Below w.heap.size w w' := by
  unfold refFromV
  have hb := hR.b
  have hI1 := Lib.hid fun W => refWithin_any day 0 100000 W
  have hI2 := Lib.hid fun W => refDipErr_any s bung dip A ss.length c W (by omega) (by omega)
  have hI3 := Lib.hid fun W => refDipErr_any s bung wrong A ss.length c W (by omega) (by omega)
  cases g1 : within day 0 100000
  · rw [g1] at hI1
    rw [if_neg (by simp)]
    unfold rdv Rd.zero
    dsimp only
    go_enter Try.func43, Try.ntmps43
    go_wp2_with (first | (go_at_call 19; refine (hI1.out _).mono ?_; rintro e w' ⟨rfl, rfl⟩) | (go_at_call 24; refine Calls.mono (by with_reducible exact hI2.out _) ?_; rintro e w2 ⟨rfl, hb⟩; (have hbw := via (by go_grown : Below w.heap.size w _) hb; have hsw := hbw.size; have B0 : w2.heap[w.heap.size]? = some (.cells #[.string s, .int .i64 bung, .slice A ss.length c] 34 (0, 0)) := bk_keep hb (by (repeat (first | assumption | exact bk_new _ _ (by simp) | refine bk_drew ?_ | refine bk_alloc ?_ _ | refine bk_set ?_ (by simp <;> omega) _))); have B1 : w2.heap[w.heap.size + 1]? = some (.cells #[.int .i64 day, .int .i64 dip, .int .i64 wrong] 77 (0, 0)) := bk_keep hb (by (repeat (first | assumption | exact bk_new _ _ (by simp) | refine bk_drew ?_ | refine bk_alloc ?_ _ | refine bk_set ?_ (by simp <;> omega) _))); have B2 : w2.heap[w.heap.size + 1 + 1]? = some (.cells #[.string { data := #[] }, .int .i64 0, .int .i64 0, .int .i64 0] 73 (0, 0)) := bk_keep hb (by (repeat (first | assumption | exact bk_new _ _ (by simp) | refine bk_drew ?_ | refine bk_alloc ?_ _ | refine bk_set ?_ (by simp <;> omega) _))); have C0 := bk3 B0; have C1 := bk3 B1; have C2 := bk4 B2)) | (go_at_call 24; refine Calls.mono (by with_reducible exact hI3.out _) ?_; rintro e w3 ⟨rfl, hb⟩; (have hbw := via (by go_grown : Below w.heap.size w _) hb; have hsw := hbw.size; replace B0 := bk_keep hb B0; replace B1 := bk_keep hb B1; replace B2 := bk_keep hb B2; replace C0 := bk3 B0; replace C1 := bk3 B1; replace C2 := bk4 B2)))
    refine bodyPost_ret (v := .tuple #[.agg #[.string { data := #[] }, .int .i64 0, .int .i64 0, .int .i64 0], .int .i64 2]) ?_ rfl ⟨rfl, ?_⟩
    · simp [results, Try.results43, go_sem]
    · go_grown
  rw [g1] at hI1
  cases g2 : within dip 0 (2 * bung)
  · rw [g2] at hI2
    rw [if_neg (by simp)]
    unfold rdv Rd.zero
    dsimp only
    rw [show unl false 2 = 2 from rfl] at hI2
    go_enter Try.func43, Try.ntmps43
    go_wp2_with (first | (go_at_call 19; refine (hI1.out _).mono ?_; rintro e w' ⟨rfl, rfl⟩) | (go_at_call 24; refine Calls.mono (by with_reducible exact hI2.out _) ?_; rintro e w2 ⟨rfl, hb⟩; (have hbw := via (by go_grown : Below w.heap.size w _) hb; have hsw := hbw.size; have B0 : w2.heap[w.heap.size]? = some (.cells #[.string s, .int .i64 bung, .slice A ss.length c] 34 (0, 0)) := bk_keep hb (by (repeat (first | assumption | exact bk_new _ _ (by simp) | refine bk_drew ?_ | refine bk_alloc ?_ _ | refine bk_set ?_ (by simp <;> omega) _))); have B1 : w2.heap[w.heap.size + 1]? = some (.cells #[.int .i64 day, .int .i64 dip, .int .i64 wrong] 77 (0, 0)) := bk_keep hb (by (repeat (first | assumption | exact bk_new _ _ (by simp) | refine bk_drew ?_ | refine bk_alloc ?_ _ | refine bk_set ?_ (by simp <;> omega) _))); have B2 : w2.heap[w.heap.size + 1 + 1]? = some (.cells #[.string { data := #[] }, .int .i64 0, .int .i64 0, .int .i64 0] 73 (0, 0)) := bk_keep hb (by (repeat (first | assumption | exact bk_new _ _ (by simp) | refine bk_drew ?_ | refine bk_alloc ?_ _ | refine bk_set ?_ (by simp <;> omega) _))); have C0 := bk3 B0; have C1 := bk3 B1; have C2 := bk4 B2)) | (go_at_call 24; refine Calls.mono (by with_reducible exact hI3.out _) ?_; rintro e w3 ⟨rfl, hb⟩; (have hbw := via (by go_grown : Below w.heap.size w _) hb; have hsw := hbw.size; replace B0 := bk_keep hb B0; replace B1 := bk_keep hb B1; replace B2 := bk_keep hb B2; replace C0 := bk3 B0; replace C1 := bk3 B1; replace C2 := bk4 B2)))
    refine bodyPost_ret (v := .tuple #[.agg #[.string { data := #[] }, .int .i64 0, .int .i64 0, .int .i64 0], .int .i64 2]) ?_ rfl ⟨rfl, ?_⟩
    · simp [results, Try.results43, go_sem, C2]
    · go_grown
  rw [g2] at hI2
  rw [show unl true 2 = 0 from rfl] at hI2
  cases g3 : within wrong 0 (2 * bung)
  · rw [g3] at hI3
    rw [if_neg (by simp)]
    unfold rdv Rd.zero
    dsimp only
    rw [show unl false 2 = 2 from rfl] at hI3
    go_enter Try.func43, Try.ntmps43
    go_wp2_with (first | (go_at_call 19; refine (hI1.out _).mono ?_; rintro e w' ⟨rfl, rfl⟩) | (go_at_call 24; refine Calls.mono (by with_reducible exact hI2.out _) ?_; rintro e w2 ⟨rfl, hb⟩; (have hbw := via (by go_grown : Below w.heap.size w _) hb; have hsw := hbw.size; have B0 : w2.heap[w.heap.size]? = some (.cells #[.string s, .int .i64 bung, .slice A ss.length c] 34 (0, 0)) := bk_keep hb (by (repeat (first | assumption | exact bk_new _ _ (by simp) | refine bk_drew ?_ | refine bk_alloc ?_ _ | refine bk_set ?_ (by simp <;> omega) _))); have B1 : w2.heap[w.heap.size + 1]? = some (.cells #[.int .i64 day, .int .i64 dip, .int .i64 wrong] 77 (0, 0)) := bk_keep hb (by (repeat (first | assumption | exact bk_new _ _ (by simp) | refine bk_drew ?_ | refine bk_alloc ?_ _ | refine bk_set ?_ (by simp <;> omega) _))); have B2 : w2.heap[w.heap.size + 1 + 1]? = some (.cells #[.string { data := #[] }, .int .i64 0, .int .i64 0, .int .i64 0] 73 (0, 0)) := bk_keep hb (by (repeat (first | assumption | exact bk_new _ _ (by simp) | refine bk_drew ?_ | refine bk_alloc ?_ _ | refine bk_set ?_ (by simp <;> omega) _))); have C0 := bk3 B0; have C1 := bk3 B1; have C2 := bk4 B2)) | (go_at_call 24; refine Calls.mono (by with_reducible exact hI3.out _) ?_; rintro e w3 ⟨rfl, hb⟩; (have hbw := via (by go_grown : Below w.heap.size w _) hb; have hsw := hbw.size; replace B0 := bk_keep hb B0; replace B1 := bk_keep hb B1; replace B2 := bk_keep hb B2; replace C0 := bk3 B0; replace C1 := bk3 B1; replace C2 := bk4 B2)))
    refine bodyPost_ret (v := .tuple #[.agg #[.string { data := #[] }, .int .i64 0, .int .i64 0, .int .i64 0], .int .i64 2]) ?_ rfl ⟨rfl, ?_⟩
    · simp [results, Try.results43, go_sem, C2]
    · go_grown
  rw [g3] at hI3
  rw [show unl true 2 = 0 from rfl] at hI3
  rw [if_pos (by rfl)]
  obtain ⟨d1, d2⟩ := within_true g2
  obtain ⟨e1, e2⟩ := within_true g3
  have hT := Lib.hid fun (d : Int) W (h1 : 0 ≤ d) (h2 : d ≤ 2 * bung) hb => refVolumeTo_any s bung d A ss c W hR h1 h2 (At.below hat hb)
  unfold fromV loOf hiOf
  obtain ⟨M1, hM1⟩ : ∃ m, (if wrong < dip then dip - wrong else 0) = m := ⟨_, rfl⟩
  obtain ⟨M2, hM2⟩ : ∃ m, (if dip + wrong < 2 * bung then dip + wrong else 2 * bung) = m := ⟨_, rfl⟩
  rw [hM1, hM2]
  have k1 : 0 ≤ M1 ∧ M1 ≤ 2 * bung := by rw [← hM1]; split <;> omega
  have k2 : 0 ≤ M2 ∧ M2 ≤ 2 * bung := by rw [← hM2]; split <;> omega
  have hT1 := Lib.hid fun W hb => hT.out M1 W k1.1 k1.2 hb
  have hT2 := Lib.hid fun W hb => hT.out M2 W k2.1 k2.2 hb
  generalize toV bung M1 ss = T at *
  generalize toV bung M2 ss = U at *
  obtain ⟨T1, T2⟩ := T
  obtain ⟨U1, U2⟩ := U
  dsimp only at *
  have hr1 : IntKind.i64.wrap (dip - wrong) = dip - wrong := IntWalk.i64_in _ (by omega)
  have hr2 : IntKind.i64.wrap (dip + wrong) = dip + wrong := IntWalk.i64_in _ (by omega)
  have hr3 : IntKind.i64.wrap (2 * bung) = 2 * bung := IntWalk.i64_in _ (by omega)
  clear g1 g2 g3 hT k1 k2 hR hat
  unfold rdv Rd.zero
  by_cases h100 : 100000 < U2
  · rw [if_pos h100]
    dsimp only
    go_enter Try.func43, Try.ntmps43
    go_wp2_with (first | (go_at_call 19; refine (hI1.out _).mono ?_; rintro e w' ⟨rfl, rfl⟩) | (go_at_call 24; refine Calls.mono (by with_reducible exact hI2.out _) ?_; rintro e w2 ⟨rfl, hb⟩; (have hbw := via (by go_grown : Below w.heap.size w _) hb; have hsw := hbw.size; have B0 : w2.heap[w.heap.size]? = some (.cells #[.string s, .int .i64 bung, .slice A ss.length c] 34 (0, 0)) := bk_keep hb (by (repeat (first | assumption | exact bk_new _ _ (by simp) | refine bk_drew ?_ | refine bk_alloc ?_ _ | refine bk_set ?_ (by simp <;> omega) _))); have B1 : w2.heap[w.heap.size + 1]? = some (.cells #[.int .i64 day, .int .i64 dip, .int .i64 wrong] 77 (0, 0)) := bk_keep hb (by (repeat (first | assumption | exact bk_new _ _ (by simp) | refine bk_drew ?_ | refine bk_alloc ?_ _ | refine bk_set ?_ (by simp <;> omega) _))); have B2 : w2.heap[w.heap.size + 1 + 1]? = some (.cells #[.string { data := #[] }, .int .i64 0, .int .i64 0, .int .i64 0] 73 (0, 0)) := bk_keep hb (by (repeat (first | assumption | exact bk_new _ _ (by simp) | refine bk_drew ?_ | refine bk_alloc ?_ _ | refine bk_set ?_ (by simp <;> omega) _))); have C0 := bk3 B0; have C1 := bk3 B1; have C2 := bk4 B2)) | (go_at_call 24; refine Calls.mono (by with_reducible exact hI3.out _) ?_; rintro e w3 ⟨rfl, hb⟩; (have hbw := via (by go_grown : Below w.heap.size w _) hb; have hsw := hbw.size; replace B0 := bk_keep hb B0; replace B1 := bk_keep hb B1; replace B2 := bk_keep hb B2; replace C0 := bk3 B0; replace C1 := bk3 B1; replace C2 := bk4 B2)))
    have hzz := bk_size B2
    apply region_store w 27 28 6 (.cells #[.string { data := #[] }, .int .i64 0, .int .i64 0, .int .i64 0] 73 (0, 0)) (.cells #[.string s, .int .i64 day, .int .i64 T1, .int .i64 U2] 73 (0, 0))
    case hm => kernel_rfl
    case hB => kernel_rfl
    case hB' => kernel_rfl
    case hS => kernel_rfl
    case hN => kernel_rfl
    case hw => exact hbw
    case hal => intro o ho; simp at ho; subst ho; intro a x; kernel_rfl
    case hq =>
      intro u hu hgc hbx hbX
      have E0 := bk3 (bk_keep hu B0)
      have E1 := bk3 (bk_keep hu B1)
      have hfd1 : ∀ W : World, Sem.run Try.prog (Instr.field 24 (.agg #[.int .i64 T1, .int .i64 T2]) 0) W = .ok (.int .i64 T1) W := fun _ => by kernel_rfl
      have hfd2 : ∀ W : World, Sem.run Try.prog (Instr.field 24 (.agg #[.int .i64 U1, .int .i64 U2]) 1) W = .ok (.int .i64 U2) W := fun _ => by kernel_rfl
      simp only [dummyAt, struck, Nat.reduceAdd, Nat.reduceBEq, Nat.zero_add, Bool.or_false, Bool.or_true, Bool.false_or, Bool.true_or, Bool.false_eq_true, if_true, if_false, Bool.or_self]
      repeat (go_big_quiet_step (first
        | (go_at_call 25; with_reducible exact Grew.call (hT1.out _ (hbx.out _)))
        | (go_at_call 25; with_reducible exact Grew.call (hT2.out _ (hbx.out _)))))
      exact wpQuiet_nil rfl
    case hst =>
      intro o ho B x hx hB hz
      simp at ho
      subst ho
      have Cz := bk4 hz
      refine ⟨(((x.setCell ⟨B, 0, none⟩ (.string s)).setCell ⟨B, 1, none⟩ (.int .i64 day)).setCell ⟨B, 2, none⟩ (.int .i64 T1)).setCell ⟨B, 3, none⟩ (.int .i64 U2), by simp [execOp, go_sem, Act.put, Cz], below_in (below_in (below_in (below_in hx hB _) hB _) hB _) hB _, bk_here (bk_here (bk_here (bk_here hz _ rfl) _ rfl) _ rfl) _ rfl⟩
    case h =>
      intro B x hB hx hw hz
      simp only [Act.put, List.setIfInBounds_toArray, List.set_cons_succ, List.set_cons_zero]
      have CG := bk4 hz
      have hsz := hx.size
      replace B2 := bk_keep hx B2
      clear C0 C1 C2
      have C2 := bk4 B2
      go_wp2
      refine bodyPost_ret (v := .tuple #[.agg #[.string { data := #[] }, .int .i64 0, .int .i64 0, .int .i64 0], .int .i64 8]) ?_ rfl ⟨rfl, ?_⟩
      · simp [results, Try.results43, go_sem, C2, CG]
      · go_grown
  · rw [if_neg h100]
    dsimp only
    go_enter Try.func43, Try.ntmps43
    go_wp2_with (first | (go_at_call 19; refine (hI1.out _).mono ?_; rintro e w' ⟨rfl, rfl⟩) | (go_at_call 24; refine Calls.mono (by with_reducible exact hI2.out _) ?_; rintro e w2 ⟨rfl, hb⟩; (have hbw := via (by go_grown : Below w.heap.size w _) hb; have hsw := hbw.size; have B0 : w2.heap[w.heap.size]? = some (.cells #[.string s, .int .i64 bung, .slice A ss.length c] 34 (0, 0)) := bk_keep hb (by (repeat (first | assumption | exact bk_new _ _ (by simp) | refine bk_drew ?_ | refine bk_alloc ?_ _ | refine bk_set ?_ (by simp <;> omega) _))); have B1 : w2.heap[w.heap.size + 1]? = some (.cells #[.int .i64 day, .int .i64 dip, .int .i64 wrong] 77 (0, 0)) := bk_keep hb (by (repeat (first | assumption | exact bk_new _ _ (by simp) | refine bk_drew ?_ | refine bk_alloc ?_ _ | refine bk_set ?_ (by simp <;> omega) _))); have B2 : w2.heap[w.heap.size + 1 + 1]? = some (.cells #[.string { data := #[] }, .int .i64 0, .int .i64 0, .int .i64 0] 73 (0, 0)) := bk_keep hb (by (repeat (first | assumption | exact bk_new _ _ (by simp) | refine bk_drew ?_ | refine bk_alloc ?_ _ | refine bk_set ?_ (by simp <;> omega) _))); have C0 := bk3 B0; have C1 := bk3 B1; have C2 := bk4 B2)) | (go_at_call 24; refine Calls.mono (by with_reducible exact hI3.out _) ?_; rintro e w3 ⟨rfl, hb⟩; (have hbw := via (by go_grown : Below w.heap.size w _) hb; have hsw := hbw.size; replace B0 := bk_keep hb B0; replace B1 := bk_keep hb B1; replace B2 := bk_keep hb B2; replace C0 := bk3 B0; replace C1 := bk3 B1; replace C2 := bk4 B2)))
    have hzz := bk_size B2
    apply region_store w 27 28 6 (.cells #[.string { data := #[] }, .int .i64 0, .int .i64 0, .int .i64 0] 73 (0, 0)) (.cells #[.string s, .int .i64 day, .int .i64 T1, .int .i64 U2] 73 (0, 0))
    case hm => kernel_rfl
    case hB => kernel_rfl
    case hB' => kernel_rfl
    case hS => kernel_rfl
    case hN => kernel_rfl
    case hw => exact hbw
    case hal => intro o ho; simp at ho; subst ho; intro a x; kernel_rfl
    case hq =>
      intro u hu hgc hbx hbX
      have E0 := bk3 (bk_keep hu B0)
      have E1 := bk3 (bk_keep hu B1)
      have hfd1 : ∀ W : World, Sem.run Try.prog (Instr.field 24 (.agg #[.int .i64 T1, .int .i64 T2]) 0) W = .ok (.int .i64 T1) W := fun _ => by kernel_rfl
      have hfd2 : ∀ W : World, Sem.run Try.prog (Instr.field 24 (.agg #[.int .i64 U1, .int .i64 U2]) 1) W = .ok (.int .i64 U2) W := fun _ => by kernel_rfl
      simp only [dummyAt, struck, Nat.reduceAdd, Nat.reduceBEq, Nat.zero_add, Bool.or_false, Bool.or_true, Bool.false_or, Bool.true_or, Bool.false_eq_true, if_true, if_false, Bool.or_self]
      repeat (go_big_quiet_step (first
        | (go_at_call 25; with_reducible exact Grew.call (hT1.out _ (hbx.out _)))
        | (go_at_call 25; with_reducible exact Grew.call (hT2.out _ (hbx.out _)))))
      exact wpQuiet_nil rfl
    case hst =>
      intro o ho B x hx hB hz
      simp at ho
      subst ho
      have Cz := bk4 hz
      refine ⟨(((x.setCell ⟨B, 0, none⟩ (.string s)).setCell ⟨B, 1, none⟩ (.int .i64 day)).setCell ⟨B, 2, none⟩ (.int .i64 T1)).setCell ⟨B, 3, none⟩ (.int .i64 U2), by simp [execOp, go_sem, Act.put, Cz], below_in (below_in (below_in (below_in hx hB _) hB _) hB _) hB _, bk_here (bk_here (bk_here (bk_here hz _ rfl) _ rfl) _ rfl) _ rfl⟩
    case h =>
      intro B x hB hx hw hz
      simp only [Act.put, List.setIfInBounds_toArray, List.set_cons_succ, List.set_cons_zero]
      have CG := bk4 hz
      have hsz := hx.size
      replace B2 := bk_keep hx B2
      clear C0 C1 C2
      have C2 := bk4 B2
      go_wp2
      refine bodyPost_ret (v := .tuple #[.agg #[.string s, .int .i64 day, .int .i64 T1, .int .i64 U2], .int .i64 0]) ?_ rfl ⟨rfl, ?_⟩
      · simp [results, Try.results43, go_sem, C2, CG]
      · go_grown
end Go.Proofs
