import Derived.Test.YtjfdjjekonkgjaaZc
set_option linter.unusedSimpArgs false
set_option linter.unusedVariables false
namespace Go.Proofs
open Go.RowKit

theorem rt_mono {a b : Int} (h0 : 0 ≤ a) (h : a ≤ b) (h1 : b ≤ 1000000000000000000) : rt a ≤ rt b := by
  have ha := rt_is a h0 (by omega)
  have hb := rt_is b (by omega) h1
  have := sq_lt (a := rt a) (b := rt b + 1) (by have := hb.1; omega) (by have := ha.2.1; have := hb.2.2; omega)
  omega
theorem up_le {n r v : Int} (h : IsRoot n r) (hv : 0 ≤ v) (hn : n ≤ v * v) : up n r ≤ v := by
  unfold up
  obtain ⟨a, b, c⟩ := h
  split
  · rename_i e
    rcases Int.lt_or_le v r with hlt | hle
    · have := sq_mono (a := v + 1) (b := r) (by omega) (by omega)
      have e2 : (v + 1) * (v + 1) = v * v + 2 * v + 1 := by rw [Int.add_mul, Int.mul_add]; omega
      omega
    · exact hle
  · rename_i e
    have := sq_lt (a := r) (b := v) hv (by omega)
    omega
theorem le_up {n r : Int} (h : IsRoot n r) : 0 ≤ up n r ∧ n ≤ up n r * up n r := by
  unfold up
  obtain ⟨a, b, c⟩ := h
  split
  · exact ⟨a, by omega⟩
  · exact ⟨by omega, by omega⟩
theorem upR_mono {a b : Int} (h0 : 0 ≤ a) (h : a ≤ b) (h1 : b ≤ 1000000000000000000) : upR a ≤ upR b := by
  rw [upR_is a h0 (by omega), upR_is b (by omega) h1]
  have hb := le_up (rt_is b (by omega) h1)
  exact up_le (rt_is a h0 (by omega)) hb.1 (by omega)
theorem rt_min (a b : Int) (ha : 0 ≤ a) (hb : 0 ≤ b) (ha1 : a ≤ 1000000000000000000) (hb1 : b ≤ 1000000000000000000) : rt (min a b) = min (rt a) (rt b) := by
  rcases Int.le_total a b with h | h
  · have := rt_mono ha h hb1
    rw [Int.min_eq_left h, Int.min_eq_left this]
  · have := rt_mono hb h ha1
    rw [Int.min_eq_right h, Int.min_eq_right this]
theorem upR_max (a b : Int) (ha : 0 ≤ a) (hb : 0 ≤ b) (ha1 : a ≤ 1000000000000000000) (hb1 : b ≤ 1000000000000000000) : upR (max a b) = max (upR a) (upR b) := by
  rcases Int.le_total a b with h | h
  · have := upR_mono ha h hb1
    rw [Int.max_eq_right h, Int.max_eq_right this]
  · have := upR_mono hb h ha1
    rw [Int.max_eq_left h, Int.max_eq_left this]

set_option maxRecDepth 100000 in
set_option maxHeartbeats 1000000 in
theorem refArea_any (c lv : Int) (w : World) (hc0 : 0 ≤ c) (hc1 : c ≤ 800) (hl0 : -c ≤ lv) (hl1 : lv ≤ c) :
    Calls Try.prog 18 #[.int .i64 c, .int .i64 lv] w fun e w' => e = .returned (.agg #[.int .i64 (areaOf c lv).1, .int .i64 (areaOf c lv).2]) ∧ Below w.heap.size w w' := by
  obtain ⟨n, hn⟩ : ∃ n : Nat, (n : Int) = lv + c := ⟨(lv + c).toNat, by omega⟩
  have hV : areaOf c lv = sumA (strips c n) := by
    unfold areaOf
    rw [show (min lv c + c).toNat = n by omega]
  rw [hV]
  clear hV
  have hbd := Lib.hid fun k hk => sumA_bd c hc0 (by omega) k hk
  obtain ⟨V, hVV⟩ : ∃ V, sumA (strips c n) = V := ⟨_, rfl⟩
  rw [hVV]
  have hVV' := Lib.hid hVV
  clear hVV
  obtain ⟨V1, V2⟩ := V
  dsimp only
  obtain rfl : lv = n - c := by omega
  clear hn
  go_enter Try.func18, Try.ntmps18
  go_wp2
  go_loopw [6] (fun i wr => ∃ k : Nat, k ≤ n ∧ i = .int .i64 (-c + k) ∧ ∃ S1 S2 : Int, Hid (sumA (strips c k) = (S1, S2)) ∧ Below w.heap.size w wr ∧ w.heap.size + 1 < wr.heap.size ∧
    wr.cell? ⟨w.heap.size, 0, none⟩ = some (.int .i64 0) ∧ wr.cell? ⟨w.heap.size, 1, none⟩ = some (.int .i64 0) ∧ wr.frozen? ⟨w.heap.size, 0, none⟩ = false ∧ wr.frozen? ⟨w.heap.size, 1, none⟩ = false ∧
    wr.cell? ⟨w.heap.size + 1, 0, none⟩ = some (.int .i64 S1) ∧ wr.cell? ⟨w.heap.size + 1, 1, none⟩ = some (.int .i64 S2) ∧ wr.frozen? ⟨w.heap.size + 1, 0, none⟩ = false ∧ wr.frozen? ⟨w.heap.size + 1, 1, none⟩ = false) (fun i _ => (n - c - intOf i).toNat)
  case atStart =>
    refine ⟨0, Nat.zero_le _, by simp, 0, 0, rfl, by go_grown, by simp, ?_⟩
    simp [go_sem]
  case round =>
    obtain ⟨k, hk, rfl, S1, S2, hS, hb, hsz, g0, g1, g2, g3, s0, s1, s2, s3⟩ := hrel
    have hz0 : w.heap.size < wr.heap.size := by omega
    by_cases hlt : k < n
    · have hltI : -c + (k : Int) < n - c := by omega
      have hSb := hbd.out k (by omega)
      rw [hS.out] at hSb
      have q1 := wq_bd c (-c + k) hc0 (by omega) (by omega) (by omega)
      have q2 := wq_bd c (-c + k + 1) hc0 (by omega) (by omega) (by omega)
      have hnext : Hid (sumA (strips c (k + 1)) = (S1 + (strip c k).1, S2 + (strip c k).2)) := by
        unfold Hid
        rw [strips_succ, sumA_snoc, hS.out]
      have hW1 := Lib.hid fun W => refWidth_any c (-c + k) W (by omega) (by omega) (by omega) (by omega)
      have hW2 := Lib.hid fun W => refWidth_any c (-c + k + 1) W (by omega) (by omega) (by omega) (by omega)
      have hst : strip c k = (rt (min (wq c (-c + k)) (wq c (-c + k + 1))), upR (max (wq c (-c + k)) (wq c (-c + k + 1)))) := by
        rw [rt_min _ _ (by omega) (by omega) (by omega) (by omega), upR_max _ _ (by omega) (by omega) (by omega) (by omega)]
        unfold strip wLo wHi
        rw [upR_is _ (by omega) (by omega), upR_is _ (by omega) (by omega)]
      have hsb := strip_bd c k hc0 (by omega) (by omega)
      rw [hst] at hnext hsb
      clear hst
      generalize wq c (-c + k) = a at *
      generalize wq c (-c + k + 1) = b at *
      obtain ⟨M1, hM1⟩ : ∃ m, (if b < a then b else a) = m := ⟨_, rfl⟩
      obtain ⟨M2, hM2⟩ : ∃ m, (if a < b then b else a) = m := ⟨_, rfl⟩
      have e1 : min a b = M1 := by rw [← hM1]; split <;> omega
      have e2 : max a b = M2 := by rw [← hM2]; split <;> omega
      rw [e1, e2] at hnext hsb
      have hR1 := Lib.hid fun W => refRoot_any M1 W
      have hR2 := Lib.hid fun W => refRootUp_any M2 W (by omega) (by omega)
      clear e1 e2
      generalize rt M1 = X1 at *
      generalize upR M2 = X2 at *
      dsimp only at *
      go_wp2_with (first
        | (go_at_call 66; refine Calls.mono (by with_reducible exact hW1.out _) ?_; rintro e w1 ⟨rfl, rfl⟩)
        | (go_at_call 66; refine Calls.mono (by with_reducible exact hW2.out _) ?_; rintro e w1 ⟨rfl, rfl⟩))
      refine region_in w 15 (by kernel_rfl) (by kernel_rfl) (by go_grown) ?_
      intro hgc hbx
      simp only [List.take_succ_cons, List.take_zero, List.drop_succ_cons, List.drop_zero]
      repeat (go_big_quiet_step (first
        | (go_at_call 67; exact Grew.call_same (hR1.out _))
        | (go_at_call 68; exact Grew.call_same (hR2.out _))))
      refine wpQuiet_nil ?_
      intro w4 hb4 hbw4 hsz4
      clear hgc hbx
      have hcc := gcell hb4
      have hff := gfrozen hb4
      have g0' := (hcc _ 0 hz0).trans g0
      have g1' := (hcc _ 1 hz0).trans g1
      have g2' := (hff _ 0 hz0).trans g2
      have g3' := (hff _ 1 hz0).trans g3
      have s0' := (hcc _ 0 hsz).trans s0
      have s1' := (hcc _ 1 hsz).trans s1
      have s2' := (hff _ 0 hsz).trans s2
      have s3' := (hff _ 1 hsz).trans s3
      have hsz5 : w.heap.size + 1 < w4.heap.size := by omega
      clear hcc hff g0 g1 g2 g3 s0 s1 s2 s3
      go_wp2
      go_roundw
      case rel =>
        refine ⟨k + 1, by omega, by first | go_num | (congr 1; omega), _, _, hnext, by go_grown, by simpa using hsz5, ?_⟩
        simp [go_sem, g0', g1', g2', g3', s0', s1', s2', s3']
      case measure => simp [intOf]; omega
    · have hkn : k = n := by omega
      subst hkn
      have e : (V1, V2) = (S1, S2) := hVV'.out.symm.trans hS.out
      simp only [Prod.mk.injEq] at e
      obtain ⟨rfl, rfl⟩ := e
      have hge : ¬ (-c + (k : Int) < k - c) := by omega
      go_wp2
      refine bodyPost_ret (v := .agg #[.int .i64 V1, .int .i64 V2]) ?_ rfl ⟨rfl, ?_⟩
      · simp [results, Try.results18, go_sem, g0, g1, g2, g3]
      · go_grown
end Go.Proofs
