import Derived.Test.YtjfdjjekonkgjaaZb
import Derived.Test.YtjfdjjekonkgjaaZd
set_option linter.unusedSimpArgs false
set_option linter.unusedVariables false
namespace Go.Proofs
open Go.RowKit

theorem strip_more (c : Int) (i : Nat) (hc : 0 ≤ c) (hc2 : c ≤ 1000) (h : -c + (i : Int) < c) : (strip c i).1 ≤ (strip c i).2 ∧ 0 ≤ (strip c i).1 ∧ (strip c i).1 ≤ 2 * c ∧ 0 ≤ (strip c i).2 ∧ (strip c i).2 ≤ 2 * c := by
  have key : ∀ y, -c ≤ y → y ≤ c → 0 ≤ wLo c y ∧ wLo c y ≤ wHi c y ∧ wHi c y ≤ 2 * c := fun y h1 h2 => by
    have hb := wLo_bd c y hc hc2 h1 h2
    refine ⟨hb.1, hb.2.2.1, ?_⟩
    have hq := wq_bd c y hc hc2 h1 h2
    unfold wHi
    refine up_le (rt_is _ hq.1 (by omega)) (by omega) ?_
    unfold wq
    have hy : 0 ≤ y * y := by
      rcases Int.le_total 0 y with h | h
      · exact Int.mul_nonneg h h
      · have e : y * y = (-y) * (-y) := by rw [Int.neg_mul_neg]
        rw [e]; exact Int.mul_nonneg (by omega) (by omega)
    have e : 2 * c * (2 * c) = 4 * (c * c) := by rw [show (2 * c * (2 * c)) = 2 * (c * (2 * c)) by rw [Int.mul_assoc], show c * (2 * c) = 2 * (c * c) by rw [← Int.mul_assoc, Int.mul_comm c 2, Int.mul_assoc]]; omega
    omega
  have a := key (-c + i) (by omega) (by omega)
  have b := key (-c + i + 1) (by omega) (by omega)
  unfold strip
  dsimp only
  omega
theorem sum_more (c : Int) (hc : 0 ≤ c) (hc2 : c ≤ 1000) : ∀ k : Nat, -c + (k : Int) ≤ c → (sumA (strips c k)).1 ≤ (sumA (strips c k)).2
  | 0, _ => by simp [strips, sumA]
  | k + 1, h => by
    have ih := sum_more c hc hc2 k (by omega)
    have := strip_more c k hc hc2 (by omega)
    rw [strips_succ, sumA_snoc]
    dsimp only
    omega
theorem area_more (c lv : Int) (hc : 0 ≤ c) (hc2 : c ≤ 800) (h1 : -c ≤ lv) (h2 : lv ≤ c) : (areaOf c lv).1 ≤ (areaOf c lv).2 ∧ 0 ≤ (areaOf c lv).1 ∧ (areaOf c lv).1 ≤ 4000000 ∧ 0 ≤ (areaOf c lv).2 ∧ (areaOf c lv).2 ≤ 4000000 := by
  obtain ⟨n, hn⟩ : ∃ n : Nat, (n : Int) = lv + c := ⟨(lv + c).toNat, by omega⟩
  have hV : areaOf c lv = sumA (strips c n) := by
    unfold areaOf
    rw [show (min lv c + c).toNat = n by omega]
  rw [hV]
  have a := sum_more c hc (by omega) n (by omega)
  have b := sumA_bd c hc (by omega) n (by omega)
  omega
theorem area_next (c lv : Int) (hc : 0 ≤ c) (hc2 : c ≤ 800) (h1 : -c ≤ lv) (h2 : lv < c) : within ((areaOf c (lv + 1)).1 - (areaOf c lv).1) 0 (2 * c) = true ∧ within ((areaOf c (lv + 1)).2 - (areaOf c lv).2) 0 (2 * c) = true := by
  obtain ⟨n, hn⟩ : ∃ n : Nat, (n : Int) = lv + c := ⟨(lv + c).toNat, by omega⟩
  have hV : areaOf c lv = sumA (strips c n) := by
    unfold areaOf
    rw [show (min lv c + c).toNat = n by omega]
  have hV2 : areaOf c (lv + 1) = sumA (strips c (n + 1)) := by
    unfold areaOf
    rw [show (min (lv + 1) c + c).toNat = n + 1 by omega]
  have a := strip_more c n hc (by omega) (by omega)
  rw [hV, hV2, strips_succ, sumA_snoc]
  unfold within
  simp only [decide_eq_true_eq, Bool.and_eq_true]
  omega

set_option maxRecDepth 100000 in
set_option maxHeartbeats 1000000 in
theorem gaugeAreas_walk (r l : Int) (hr0 : -9223372036854775808 ≤ r) (hr1 : r ≤ 9223372036854775807) (hl0 : -9223372036854775808 ≤ l) (hl1 : l ≤ 9223372036854775807) (w : World) :
    Calls Try.prog 3 #[.int .i64 r, .int .i64 l] w fun e w' => e = .returned (.bool true) ∧ Below w.heap.size w w' := by
  by_cases hA : 200 < r ∧ r ≤ 800
  · obtain ⟨h1, h2⟩ := hA
    go_enter Try.func3, Try.ntmps3
    go_wp2_with (go_at_call 15; refine (awake_any _).mono ?_; rintro e w1 ⟨rfl, hb⟩)
    go_ret
    exact ⟨rfl, hb⟩
  · have hC : Hid (areaE r l = 0 → 10 ≤ r ∧ r ≤ 200 ∧ -r ≤ l ∧ l ≤ r ∧ areaV r l = areaOf r l) := fun h => by
      unfold areaV
      rw [if_pos h]
      unfold areaE at h
      split at h
      · rename_i hh
        simp only [Bool.and_eq_true] at hh
        have a := within_true hh.1
        have b := within_true hh.2
        exact ⟨by omega, by omega, by omega, by omega, rfl⟩
      · exact absurd h (by decide)
    have hE2 : Hid (areaE r l ≠ 0 → areaE r l = 2 ∧ areaV r l = (0, 0)) := fun h => by
      unfold areaV
      rw [if_neg h]
      unfold areaE at h ⊢
      split at h
      · exact absurd rfl h
      · rename_i hh
        rw [if_neg hh]; exact ⟨rfl, rfl⟩
    have hT1 := Lib.hid fun W => areaTo_any r l W
    have hT2 := Lib.hid fun W => refAreaErr_any r l W
    have hgo : (200 < r ∧ ¬ r ≤ 800) ∨ r ≤ 200 := by omega
    by_cases hz : areaE r l = 0
    · obtain ⟨r0, r1, l0, l1, hv⟩ := hC.out hz
      rw [hz, hv] at hT1
      rw [hz] at hT2
      have hT3 := Lib.hid fun W => refArea_any r l W (by omega) (by omega) l0 l1
      have hbd := area_more r l (by omega) (by omega) l0 l1
      have hT4 := Lib.hid fun W => areaTo_any r (l + 1) W
      clear hC hE2 hz hv hgo hA
      by_cases hrl : l = r
      · subst hrl
        generalize areaOf l l = V at *
        obtain ⟨V1, V2⟩ := V
        have e1 : areaE l (l + 1) = 2 := by
          unfold areaE within
          rw [if_neg]
          simp only [decide_eq_true_eq, Bool.and_eq_true]
          omega
        have e2 : areaV l (l + 1) = (0, 0) := by unfold areaV; rw [e1]; rfl
        rw [e1, e2] at hT4
        clear e1 e2
        dsimp only at *
        obtain ⟨v1, v2, v3, v4, v5⟩ := hbd
        go_enter Try.func3, Try.ntmps3
        go_wp2_with (first
          | (go_at_call 15; refine (awake_any _).mono ?_; rintro e w1 ⟨rfl, hb⟩; have hbw := via (by go_grown : Below w.heap.size w _) hb; have hsw := hbw.size)
          | (go_at_call 16; refine Calls.mono (by with_reducible exact hT1.out _) ?_; rintro e w2 ⟨rfl, hb⟩; have hbw := via (by go_grown : Below w.heap.size w _) hb; have hsw := hbw.size)
          | (go_at_call 17; refine (hT2.out _).mono ?_; rintro e w' ⟨rfl, rfl⟩))
        refine region_all w (by kernel_rfl) (by kernel_rfl) (by go_grown) ?_
        intro hgc hbx
        repeat (go_big_quiet_step ((go_at_call 18; exact Grew.call (hT3.out _))))
        refine wpQuiet_nil ?_
        intro w3 hb3 hbw3 hsz3
        have hcc := gcell hb3
        clear hgc hbx
        simp only [World.size_alloc] at hsz3
        go_wp2_with (first
          | (go_at_call 16; refine Calls.mono (by with_reducible exact hT4.out _) ?_; rintro e w4 ⟨rfl, hb⟩; have hbw := via (by go_grown : Below w.heap.size w _) hb; have hsw := hbw.size))
        go_ret
        exact ⟨rfl, by go_grown⟩
      · have hlr : l < r := by omega
        have hnx := area_next r l (by omega) (by omega) l0 hlr
        have hbd2 := area_more r (l + 1) (by omega) (by omega) (by omega) (by omega)
        have e1 : areaE r (l + 1) = 0 := by
          unfold areaE within
          rw [if_pos]
          simp only [decide_eq_true_eq, Bool.and_eq_true]
          omega
        have e2 : areaV r (l + 1) = areaOf r (l + 1) := by unfold areaV; rw [e1]; rfl
        rw [e1, e2] at hT4
        clear e1 e2
        generalize areaOf r l = V at *
        generalize areaOf r (l + 1) = B at *
        obtain ⟨V1, V2⟩ := V
        obtain ⟨B1, B2⟩ := B
        dsimp only at *
        obtain ⟨v1, v2, v3, v4, v5⟩ := hbd
        obtain ⟨b1, b2, b3, b4, b5⟩ := hbd2
        have hW1 := Lib.hid fun W => refWithin_any (B1 - V1) 0 (2 * r) W
        have hW2 := Lib.hid fun W => refWithin_any (B2 - V2) 0 (2 * r) W
        rw [hnx.1] at hW1
        rw [hnx.2] at hW2
        clear hnx
        go_enter Try.func3, Try.ntmps3
        go_wp2_with (first
          | (go_at_call 15; refine (awake_any _).mono ?_; rintro e w1 ⟨rfl, hb⟩; have hbw := via (by go_grown : Below w.heap.size w _) hb; have hsw := hbw.size)
          | (go_at_call 16; refine Calls.mono (by with_reducible exact hT1.out _) ?_; rintro e w2 ⟨rfl, hb⟩; have hbw := via (by go_grown : Below w.heap.size w _) hb; have hsw := hbw.size)
          | (go_at_call 17; refine (hT2.out _).mono ?_; rintro e w' ⟨rfl, rfl⟩))
        refine region_all w (by kernel_rfl) (by kernel_rfl) (by go_grown) ?_
        intro hgc hbx
        repeat (go_big_quiet_step ((go_at_call 18; exact Grew.call (hT3.out _))))
        refine wpQuiet_nil ?_
        intro w3 hb3 hbw3 hsz3
        have hcc := gcell hb3
        clear hgc hbx
        simp only [World.size_alloc] at hsz3
        have hz3 : w2.heap.size < w3.heap.size := by omega
        have x0 : w3.cell? ⟨w2.heap.size, 0, none⟩ = some (.int .i64 V1) := by rw [hcc _ _ (by simp)]; simp [go_sem]
        have x1 : w3.cell? ⟨w2.heap.size, 1, none⟩ = some (.int .i64 V2) := by rw [hcc _ _ (by simp)]; simp [go_sem]
        clear hcc hb3
        go_wp2_with (first
          | (go_at_call 16; refine Calls.mono (by with_reducible exact hT4.out _) ?_; rintro e w4 ⟨rfl, hb⟩; have hbw := via (by go_grown : Below w.heap.size w _) hb; have hsw := hbw.size; have hz4 : w2.heap.size < w4.heap.size := (by have := hb.size; omega); have x0' := (gcell hb _ 0 hz3).trans x0; have x1' := (gcell hb _ 1 hz3).trans x1)
          | (go_at_call 19; refine Calls.mono (by with_reducible exact hW1.out _) ?_; rintro e w' ⟨rfl, rfl⟩)
          | (go_at_call 19; refine Calls.mono (by with_reducible exact hW2.out _) ?_; rintro e w' ⟨rfl, rfl⟩))
        go_ret
        exact ⟨rfl, by go_grown⟩
    · obtain ⟨e1, e2⟩ := hE2.out hz
      rw [e1, e2] at hT1
      rw [e1] at hT2
      clear hC hE2 hz e1 e2 hA
      dsimp only at hT1
      rcases hgo with ⟨g1, g2⟩ | g1
      all_goals
        go_enter Try.func3, Try.ntmps3
        go_wp2_with (first
          | (go_at_call 15; refine (awake_any _).mono ?_; rintro e w1 ⟨rfl, hb⟩; have hbw := via (by go_grown : Below w.heap.size w _) hb; have hsw := hbw.size)
          | (go_at_call 16; refine (hT1.out _).mono ?_; rintro e w2 ⟨rfl, hb⟩; have hbw := via (by go_grown : Below w.heap.size w _) hb; have hsw := hbw.size)
          | (go_at_call 17; refine (hT2.out _).mono ?_; rintro e w' ⟨rfl, rfl⟩))
        go_ret
        exact ⟨rfl, by go_grown⟩
end Go.Proofs
