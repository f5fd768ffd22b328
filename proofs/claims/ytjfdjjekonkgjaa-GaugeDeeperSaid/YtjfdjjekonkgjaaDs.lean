import Derived.Test.YtjfdjjekonkgjaaDr
set_option linter.unusedSimpArgs false
set_option linter.unusedVariables false
namespace Go.Proofs
open Go.RowKit

set_option maxRecDepth 100000 in
set_option maxHeartbeats 2000000 in
theorem least_any (s : ByteArray) (bung : Int) (A : Option Addr) (ss : List St) (c : Nat) (vol : Int) (w : World) (hR : RightC bung ss) (hat : At 3 St.cs w A ss) :
    Calls Try.prog 101 #[.agg #[.string s, .int .i64 bung, .slice A ss.length c], .int .i64 vol] w fun e w' => e = .returned (.int .i64 (dLo bung ss vol)) ∧ Below w.heap.size w w' := by
  unfold dLo
  have hF := Lib.hid (fst_is (pLo_up (vol := vol) hR) (2 * bung + 1).toNat)
  have hpm := Lib.hid (pLo_up (vol := vol) hR)
  have hT := Lib.hid fun (d : Int) W (h1 : 0 ≤ d) (h2 : d ≤ 2 * bung) hb => refVolumeTo_any s bung d A ss c W hR h1 h2 (At.below hat hb)
  have hb := hR.b
  obtain ⟨n, hn⟩ : ∃ n, ss.length = n := ⟨_, rfl⟩
  rw [hn] at hT ⊢
  obtain ⟨N, hN⟩ : ∃ N : Nat, (N : Int) = 2 * bung := ⟨(2 * bung).toNat, by omega⟩
  have hNN := Lib.hid hN
  have hN1 : (N : Int) ≤ 1600 := by omega
  have hw2 : IntKind.i64.wrap (2 * bung) = 2 * bung := IntWalk.i64_in _ (by omega)
  have hw3 : IntKind.i64.wrap (2 * bung + 1) = 2 * bung + 1 := IntWalk.i64_in _ (by omega)
  have eN : (2 * bung + 1).toNat = N + 1 := by omega
  rw [eN] at hF ⊢
  obtain ⟨r, hr⟩ : ∃ r, fst (pLo bung ss vol) (N + 1) = r := ⟨_, rfl⟩
  rw [hr] at hF ⊢
  clear hr hn hat hR hN eN
  go_enter Try.func101, Try.ntmps101
  go_wp2_with fail
  refine region_all w (by kernel_rfl) (by kernel_rfl) (by go_grown) ?_
  intro hgc hbx
  repeat (go_big_quiet_step (fail))
  refine wpQuiet_nil ?_
  intro w1 hb1 hbw1 hsz1
  clear hgc hbx
  have B0 : w1.heap[w.heap.size]? = some (.cells #[.string s, .int .i64 bung, .slice A n c] 34 (0, 0)) := bk_keep hb1 (by (repeat (first | assumption | exact bk_new _ _ (by simp) | refine bk_drew ?_ | refine bk_alloc ?_ _ | refine bk_set ?_ (by simp <;> omega) _)))
  go_wp2_with fail
  go_loopw [5, 6] (fun i j wr => ∃ a b : Nat, a ≤ b ∧ b ≤ N + 1 ∧ i = .int .i64 a ∧ j = .int .i64 b ∧ Hid (∀ k, k < a → pLo bung ss vol k = false) ∧ Hid (∀ k, b ≤ k → k < N + 1 → pLo bung ss vol k = true) ∧ Below w.heap.size w wr ∧ wr.heap[w.heap.size]? = some (.cells #[.string s, .int .i64 bung, .slice A n c] 34 (0, 0))) (fun i j _ => (intOf j - intOf i).toNat)
  case atStart => exact ⟨0, N + 1, by omega, by omega, rfl, by rw [Int.natCast_add, hNN.out]; rfl, fun k hk => by omega, fun k h1 h2 => by omega, hbw1, B0⟩
  case round =>
    obtain ⟨a, b, hab, hbn, rfl, rfl, hlo, hhi, hbw, B0⟩ := hrel
    have C0 := bk3 B0
    by_cases hlt : a < b
    · have e : (((a + b) / 2 : Nat) : Int) = ((a : Int) + (b : Int)) / 2 := by omega
      have hC := Lib.hid fun W hw => hT.out (((a : Int) + (b : Int)) / 2) W (by omega) (by have := hNN.out; omega) hw
      obtain ⟨B, hB⟩ : ∃ B, pLo bung ss vol ((a + b) / 2) = B := ⟨_, rfl⟩
      have hB' := Lib.hid hB
      unfold pLo at hB
      rw [e] at hB
      have e' := Lib.hid e
      clear e
      generalize toV bung (((a : Int) + (b : Int)) / 2) ss = T at *
      obtain ⟨T1, T2⟩ := T
      dsimp only at *
      have hfd : ∀ W : World, Sem.run Try.prog (Instr.field 24 (.agg #[.int .i64 T1, .int .i64 T2]) 1) W = .ok (.int .i64 T2) W := fun _ => by kernel_rfl
      cases B
      · have hnle : ¬ vol ≤ T2 := by simpa using hB
        clear hB
        go_wp2_with (go_at_call 25; refine (hC.out _ hbw).mono ?_; rintro e w1 ⟨rfl, hb1⟩; have hbw := via hbw hb1; replace B0 := bk_keep hb1 B0; replace C0 := bk3 B0)
        go_roundw
        case rel => exact ⟨(a + b) / 2 + 1, b, by omega, hbn, by rw [Int.natCast_add, e'.out]; rfl, rfl, not_before hpm.out hB'.out, hhi, hbw, B0⟩
        case measure => simp [intOf]; omega
      · have hle : vol ≤ T2 := by simpa using hB
        clear hB
        go_wp2_with (go_at_call 25; refine (hC.out _ hbw).mono ?_; rintro e w1 ⟨rfl, hb1⟩; have hbw := via hbw hb1; replace B0 := bk_keep hb1 B0; replace C0 := bk3 B0)
        go_roundw
        case rel => exact ⟨a, (a + b) / 2, by omega, by omega, rfl, by rw [e'.out], hlo, fun k h1 h2 => hpm.out _ _ h1 hB'.out, hbw, B0⟩
        case measure => simp [intOf]; omega
    · have hab2 : a = b := by omega
      subst hab2
      have he := firstTrue_one hF.out ⟨hbn, hlo.out, hhi.out⟩
      go_wp2
      go_ret
      exact ⟨ret_int (by rw [he]), hbw⟩

set_option maxRecDepth 100000 in
set_option maxHeartbeats 2000000 in
theorem most_any (s : ByteArray) (bung : Int) (A : Option Addr) (ss : List St) (c : Nat) (vol : Int) (w : World) (hR : RightC bung ss) (hat : At 3 St.cs w A ss) (hv : 0 ≤ vol) :
    Calls Try.prog 102 #[.agg #[.string s, .int .i64 bung, .slice A ss.length c], .int .i64 vol] w fun e w' => e = .returned (.int .i64 (dHi bung ss vol)) ∧ Below w.heap.size w w' := by
  unfold dHi
  have hF := Lib.hid (fst_is (pHi_up (vol := vol) hR) (2 * bung + 1).toNat)
  have hpm := Lib.hid (pHi_up (vol := vol) hR)
  have h0 : Hid (pHi bung ss vol 0 = false) := by
    unfold Hid pHi
    have := toV_zero hR
    rw [show ((0 : Nat) : Int) = 0 by rfl, this]
    simpa using hv
  have hT := Lib.hid fun (d : Int) W (h1 : 0 ≤ d) (h2 : d ≤ 2 * bung) hb => refVolumeTo_any s bung d A ss c W hR h1 h2 (At.below hat hb)
  have hb := hR.b
  obtain ⟨n, hn⟩ : ∃ n, ss.length = n := ⟨_, rfl⟩
  rw [hn] at hT ⊢
  obtain ⟨N, hN⟩ : ∃ N : Nat, (N : Int) = 2 * bung := ⟨(2 * bung).toNat, by omega⟩
  have hNN := Lib.hid hN
  have hN1 : (N : Int) ≤ 1600 := by omega
  have hw2 : IntKind.i64.wrap (2 * bung) = 2 * bung := IntWalk.i64_in _ (by omega)
  have hw3 : IntKind.i64.wrap (2 * bung + 1) = 2 * bung + 1 := IntWalk.i64_in _ (by omega)
  have eN : (2 * bung + 1).toNat = N + 1 := by omega
  rw [eN] at hF ⊢
  obtain ⟨r, hr⟩ : ∃ r, fst (pHi bung ss vol) (N + 1) = r := ⟨_, rfl⟩
  rw [hr] at hF ⊢
  clear hr hn hat hR hN eN
  go_enter Try.func102, Try.ntmps102
  go_wp2_with fail
  refine region_all w (by kernel_rfl) (by kernel_rfl) (by go_grown) ?_
  intro hgc hbx
  repeat (go_big_quiet_step (fail))
  refine wpQuiet_nil ?_
  intro w1 hb1 hbw1 hsz1
  clear hgc hbx
  have B0 : w1.heap[w.heap.size]? = some (.cells #[.string s, .int .i64 bung, .slice A n c] 34 (0, 0)) := bk_keep hb1 (by (repeat (first | assumption | exact bk_new _ _ (by simp) | refine bk_drew ?_ | refine bk_alloc ?_ _ | refine bk_set ?_ (by simp <;> omega) _)))
  go_wp2_with fail
  go_loopw [5, 6] (fun i j wr => ∃ a b : Nat, a ≤ b ∧ b ≤ N ∧ i = .int .i64 a ∧ j = .int .i64 b ∧ Hid (pHi bung ss vol a = false) ∧ Hid (∀ k, b < k → k < N + 1 → pHi bung ss vol k = true) ∧ Below w.heap.size w wr ∧ wr.heap[w.heap.size]? = some (.cells #[.string s, .int .i64 bung, .slice A n c] 34 (0, 0))) (fun i j _ => (intOf j - intOf i).toNat)
  case atStart => exact ⟨0, N, by omega, by omega, rfl, by rw [hNN.out], h0, fun k h1 h2 => by omega, hbw1, B0⟩
  case round =>
    obtain ⟨a, b, hab, hbn, rfl, rfl, hlo, hhi, hbw, B0⟩ := hrel
    have C0 := bk3 B0
    by_cases hlt : a < b
    · have e : (((a + b + 1) / 2 : Nat) : Int) = ((a : Int) + (b : Int) + 1) / 2 := by omega
      have hC := Lib.hid fun W hw => hT.out (((a : Int) + (b : Int) + 1) / 2) W (by omega) (by have := hNN.out; omega) hw
      obtain ⟨B, hB⟩ : ∃ B, pHi bung ss vol ((a + b + 1) / 2) = B := ⟨_, rfl⟩
      have hB' := Lib.hid hB
      unfold pHi at hB
      rw [e] at hB
      have e' := Lib.hid e
      clear e
      generalize toV bung (((a : Int) + (b : Int) + 1) / 2) ss = T at *
      obtain ⟨T1, T2⟩ := T
      dsimp only at *
      have hfd : ∀ W : World, Sem.run Try.prog (Instr.field 24 (.agg #[.int .i64 T1, .int .i64 T2]) 0) W = .ok (.int .i64 T1) W := fun _ => by kernel_rfl
      cases B
      · have hle : T1 ≤ vol := by simp at hB; omega
        clear hB
        go_wp2_with (go_at_call 25; refine (hC.out _ hbw).mono ?_; rintro e w1 ⟨rfl, hb1⟩; have hbw := via hbw hb1; replace B0 := bk_keep hb1 B0; replace C0 := bk3 B0)
        go_roundw
        case rel => exact ⟨(a + b + 1) / 2, b, by omega, hbn, by rw [e'.out], rfl, hB', hhi, hbw, B0⟩
        case measure => simp [intOf]; omega
      · have hnle : ¬ T1 ≤ vol := by simp at hB; omega
        clear hB
        go_wp2_with (go_at_call 25; refine (hC.out _ hbw).mono ?_; rintro e w1 ⟨rfl, hb1⟩; have hbw := via hbw hb1; replace B0 := bk_keep hb1 B0; replace C0 := bk3 B0)
        go_roundw
        case rel => exact ⟨a, (a + b + 1) / 2 - 1, by omega, by omega, rfl, by have := e'.out; congr 1; omega, hlo, fun k h1 h2 => hpm.out _ _ (by omega) hB'.out, hbw, B0⟩
        case measure => simp [intOf]; omega
    · have hab2 : a = b := by omega
      subst hab2
      have he := firstTrue_one hF.out (r' := a + 1) ⟨by omega, not_before hpm.out hlo.out, fun k h1 h2 => hhi.out k (by omega) h2⟩
      go_wp2
      go_ret
      exact ⟨ret_int (by rw [he]; omega), hbw⟩
end Go.Proofs
