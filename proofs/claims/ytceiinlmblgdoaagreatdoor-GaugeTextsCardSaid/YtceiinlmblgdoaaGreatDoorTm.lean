import Derived.Test.YtceiinlmblgdoaaGreatDoorPr
import Derived.Test.YtceiinlmblgdoaaGreatDoorZb
set_option linter.unusedSimpArgs false
set_option linter.unusedVariables false
namespace Go.Proofs
open Go.RowKit

/-! A right gauging is read back. -/
theorem name_blank {c : List UInt8} (h : nameB c = true) : ∀ x ∈ c, x ≠ 32 := by
  intro x hx e
  subst e
  unfold nameB at h
  simp only [Bool.and_eq_true] at h
  have hc := h.2
  unfold charsOk at hc
  rw [List.all_eq_true] at hc
  obtain ⟨i, hi⟩ := List.getElem?_of_mem hx
  have hlt := (List.getElem?_eq_some_iff.1 hi).1
  have := hc i (List.mem_range.2 hlt)
  rw [List.getD_eq_getElem?_getD, hi] at this
  revert this
  unfold charOk letter
  simp
theorem dec_blank (u : Nat) : ∀ x ∈ Lib.decDigits u, x ≠ 32 := by
  intro x hx
  have := (decDigits_said u).2.1
  rw [List.all_eq_true] at this
  exact (dig_not (this x hx)).2.2
theorem itoa_blank (n : Int) : ∀ x ∈ Lib.itoa n, x ≠ 32 := by
  intro x hx
  unfold Lib.itoa at hx
  split at hx
  · rcases List.mem_cons.1 hx with rfl | hx
    · decide
    · exact dec_blank _ x hx
  · exact dec_blank _ x hx
theorem parse_small {n : Int} (h0 : 0 ≤ n) (h1 : n ≤ 100000) : parseN (Lib.itoa n) = some n := by
  refine parse_itoa n ?_
  rw [(magL_itoa n).1]
  have := decDigits_len 6 n.natAbs (by decide) (by omega)
  omega
theorem read_back {c : List UInt8} {d lo hi : Int} (h : gaugingE c d lo hi = 0) : parseG (fmtL c d lo hi) = (⟨c, d, lo, hi⟩, 0) := by
  have h' := h
  unfold gaugingE at h
  obtain ⟨a1, a2, a3⟩ := firstE3_zero h
  have n1 := unl_zero (by decide) a1
  have n2 := unl_zero (by decide) a2
  simp only [Bool.and_eq_true] at n2
  obtain ⟨⟨m1, m2⟩, m3⟩ := n2
  have hd := within_true m1
  have hl := within_true m2
  have hh := within_true m3
  have hne : c ≠ [] := by
    intro e
    subst e
    revert n1
    decide
  have hcut : cutL (fmtL c d lo hi) = [c, Lib.itoa d, Lib.itoa lo, Lib.itoa hi] := by
    unfold fmtL
    rw [cutL_hit _ _ (name_blank n1), cutL_hit _ _ (itoa_blank d), cutL_hit _ _ (itoa_blank lo), cutL_none _ (itoa_blank hi)]
  rw [parseG_four hcut, if_neg hne, parse_small hd.1 hd.2, parse_small hl.1 hl.2, parse_small hh.1 hh.2]
  dsimp only
  rw [if_pos h']
set_option maxRecDepth 100000 in
set_option maxHeartbeats 4000000 in
theorem gaugeTexts_walk (w : World) (c : List UInt8) (d lo hi : Int) (hcm : c.length ≤ 9223372036854775807) (hd : -9223372036854775808 ≤ d ∧ d ≤ 9223372036854775807) (hl : -9223372036854775808 ≤ lo ∧ lo ≤ 9223372036854775807) (hh : -9223372036854775808 ≤ hi ∧ hi ≤ 9223372036854775807)
    (s : ByteArray) (ht : Tabs w) :
    Calls Tryz.prog 3 #[.agg #[.string (bs c), .int .i64 d, .int .i64 lo, .int .i64 hi], .string s] w fun e w' => e = .returned (.bool true) ∧ Below w.heap.size w w' := by
  by_cases h20 : 20 < c.length
  · have g1 : 20 < ((bs c).size : Int) := by rw [bs_size]; omega
    go_enter Tryz.func3, Tryz.ntmps3
    go_wp2_with (go_at_call 4; refine (awake_any _).mono ?_; rintro e w1 ⟨rfl, hb⟩; have hbw := via (by go_grown : Below w.heap.size w _) hb; have B0 : w1.heap[w.heap.size]? = some (.cells #[.string (bs c), .int .i64 d, .int .i64 lo, .int .i64 hi] 25 (0, 0)) := bk_keep hb (bk_new _ _ rfl); have C0 := bk4 B0)
    go_ret
    exact ⟨rfl, hbw⟩
  have g1 : ¬ 20 < ((bs c).size : Int) := by rw [bs_size]; omega
  by_cases h100 : 100 < s.size
  · have g2 : 100 < (s.size : Int) := by omega
    go_enter Tryz.func3, Tryz.ntmps3
    go_wp2_with (go_at_call 4; refine (awake_any _).mono ?_; rintro e w1 ⟨rfl, hb⟩; have hbw := via (by go_grown : Below w.heap.size w _) hb; have B0 : w1.heap[w.heap.size]? = some (.cells #[.string (bs c), .int .i64 d, .int .i64 lo, .int .i64 hi] 25 (0, 0)) := bk_keep hb (bk_new _ _ rfl); have C0 := bk4 B0)
    go_ret
    exact ⟨rfl, hbw⟩
  have g2 : ¬ 100 < (s.size : Int) := by omega
  have hF := Lib.hid fun W (hb : Below w.heap.size w W) => format_any c d lo hi W (by omega) hd hl hh (ht.below hb)
  have hF2 := Lib.hid fun W => refFormat_any c d lo hi W (by omega) hd hl hh
  have hP := Lib.hid fun W (hb : Below w.heap.size w W) => parse_any s W (by omega) (ht.below hb)
  have hP2 := Lib.hid fun W => refParse_any s W (by omega)
  have hfl := fmt_len (c := c) (by omega) hd hl hh
  have hP3 := Lib.hid fun W (hb : Below w.heap.size w W) => parse_any (bs (fmtL c d lo hi)) W (by rw [bs_size]; omega) (ht.below hb)
  have hE := Lib.hid fun W => refReadingErr_any (bs c) d lo hi W (by rw [bs_size]; omega)
  rw [bs_data] at hE hP3
  have hrb : Hid (gaugingE c d lo hi = 0 → parseG (fmtL c d lo hi) = (⟨c, d, lo, hi⟩, 0)) := read_back
  obtain ⟨E, hEe⟩ : ∃ E, gaugingE c d lo hi = E := ⟨_, rfl⟩
  rw [hEe] at hE hrb
  generalize fmtL c d lo hi = F at *
  generalize parseG s.data.toList = p at *
  obtain ⟨⟨pc, pd, pl, ph⟩, pe⟩ := p
  generalize parseG F = q at *
  clear hEe hfl
  unfold gval at hP hP2 hP3
  dsimp only at hP hP2 hP3
  go_enter Tryz.func3, Tryz.ntmps3
  go_wp2_with (first | (go_at_call 4; refine (awake_any _).mono ?_; rintro e w1 ⟨rfl, hb⟩; have hbw := via (by go_grown : Below w.heap.size w _) hb; have B0 : w1.heap[w.heap.size]? = some (.cells #[.string (bs c), .int .i64 d, .int .i64 lo, .int .i64 hi] 25 (0, 0)) := bk_keep hb (bk_new _ _ rfl); have C0 := bk4 B0) | (go_at_call 5; refine (hF.out _ hbw).mono ?_; rintro e w2 ⟨rfl, hb⟩; have hbw := via hbw hb; replace B0 := bk_keep hb B0; replace C0 := bk4 B0) | (go_at_call 6; refine (hP.out _ hbw).mono ?_; rintro e w3 ⟨rfl, hb⟩; have hbw := via hbw hb; replace B0 := bk_keep hb B0; replace C0 := bk4 B0))
  refine (hP2.out _).mono ?_
  rintro e w4 ⟨rfl, hb⟩
  have BY : w4.heap[w3.heap.size]? = some (.cells #[.string (bs pc), .int .i64 pd, .int .i64 pl, .int .i64 ph] 25 (0, 0)) := bk_keep hb (bk_new _ _ rfl)
  have CY := bk4 BY
  replace hbw := via (via_alloc hbw _) hb
  replace B0 := bk_keep hb (bk_alloc B0 _)
  replace C0 := bk4 B0
  go_wp2_with (go_at_call 8; refine (hF2.out _).mono ?_; rintro e w5 ⟨rfl, hb⟩; have BW : w5.heap[w4.heap.size]? = some (.cells #[.string (bs pc), .int .i64 pd, .int .i64 pl, .int .i64 ph] 25 (0, 0)) := bk_keep hb (bk_new _ _ rfl); have CW := bk4 BW; replace hbw := via (via_alloc hbw _) hb; replace BY := bk_keep hb (bk_alloc BY _); replace CY := bk4 BY; replace B0 := bk_keep hb (bk_alloc B0 _); replace C0 := bk4 B0)
  refine (hP3.out _ hbw).mono ?_
  rintro e w6 ⟨rfl, hb⟩
  replace hbw := via hbw hb
  replace B0 := bk_keep hb B0
  replace C0 := bk4 B0
  clear BY BW CY CW hF hF2 hP hP2 hP3
  by_cases hE0 : E = 0
  · have hq := hrb.out hE0
    subst hq
    have hne : (E != 0) = false := by simp [hE0]
    clear hrb hE0
    go_wp2_with (go_at_call 9; refine (hE.out _).mono ?_; rintro e w7 ⟨rfl, hb⟩; have BZ := bk_keep hb (bk_new w6 _ rfl); have CZ := bk4 BZ; replace hbw := via (via_alloc hbw _) hb; replace B0 := bk_keep hb (bk_alloc B0 _); replace C0 := bk4 B0)
    go_ret
    exact ⟨rfl, hbw⟩
  · have hne : (E != 0) = true := by simpa using hE0
    clear hrb hE0
    go_wp2_with (go_at_call 9; refine (hE.out _).mono ?_; rintro e w7 ⟨rfl, hb⟩; have BZ := bk_keep hb (bk_new w6 _ rfl); have CZ := bk4 BZ; replace hbw := via (via_alloc hbw _) hb; replace B0 := bk_keep hb (bk_alloc B0 _); replace C0 := bk4 B0)
    go_ret
    exact ⟨rfl, hbw⟩
end Go.Proofs
