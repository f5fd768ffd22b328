import Derived.Test.YtjfdjjekonkgjaaHb
set_option linter.unusedSimpArgs false
set_option linter.unusedVariables false
namespace Go.Proofs
open Go.RowKit

theorem at_cyl {W : World} {b : Nat} {r L : Int} (h : W.heap[b]? = some (.cells #[.int .i64 0, .int .i64 r, .int .i64 r, .int .i64 L, .int .i64 r, .int .i64 r] 44 (0, 0))) : At 3 St.cs W (some ⟨b, 0, none⟩) [⟨0, r, r⟩, ⟨L, r, r⟩] := by
  intro k x hx
  refine ⟨b, 0, rfl, bk_size h, fun j v hv => ?_⟩
  rw [bk_cell h]
  match k, hx with
  | 0, hx =>
    simp at hx
    subst hx
    match j, hv with
    | 0, hv => simpa [St.cs] using hv
    | 1, hv => simpa [St.cs] using hv
    | 2, hv => simpa [St.cs] using hv
  | 1, hx =>
    simp at hx
    subst hx
    match j, hv with
    | 0, hv => simpa [St.cs] using hv
    | 1, hv => simpa [St.cs] using hv
    | 2, hv => simpa [St.cs] using hv
theorem volTo_right (s : ByteArray) (bung : Int) (A : Option Addr) (ss : List St) (c : Nat) (dip : Int) (w : World) (hs : s.size ≤ 9223372036854775807) (hcap : ss.length ≤ c) (hat : At 3 St.cs w A ss)
    (hR : RightC bung ss) (h0 : (checkC s.data.toList bung ss).2 = 0) (hd : 0 ≤ dip) (hd2 : dip ≤ 2 * bung) :
    Calls Try.prog 21 #[.agg #[.string s, .int .i64 bung, .slice A ss.length c], .int .i64 dip] w fun e w' =>
      e = .returned (.tuple #[.agg #[.int .i64 (toV bung dip ss).1, .int .i64 (toV bung dip ss).2], .int .i64 0]) ∧ Below w.heap.size w w' := by
  have h := volumeTo_any s bung A ss c dip w hs hcap hat
  have e : volToE s.data.toList bung ss dip = 0 := by
    unfold volToE
    rw [h0, wrap_bung hR, show within dip 0 (2 * bung) = true by unfold within; simp; omega]
    rfl
  unfold volToV at h
  rw [e, if_pos rfl] at h
  exact h

set_option maxRecDepth 100000 in
set_option maxHeartbeats 2000000 in
theorem gaugeHalves_walk (w : World) (r : Int) (hr1 : -9223372036854775808 ≤ r) (hr2 : r ≤ 9223372036854775807) (L : Int) (hL1 : -9223372036854775808 ≤ L) (hL2 : L ≤ 9223372036854775807) :
    Calls Try.prog 8 #[.int .i64 r, .int .i64 L] w fun e w' => e = .returned (.bool true) ∧ Below w.heap.size w w' := by
  have hW1 := Lib.hid fun W => refWithin_any r 10 60 W
  have hW2 := Lib.hid fun W => refWithin_any L 1 3000 W
  cases h1 : within r 10 60
  · rw [h1] at hW1
    clear h1
    go_enter Try.func8, Try.ntmps8
    go_wp2_with (first | (go_at_call 15; refine (awake_any _).mono ?_; rintro e w1 ⟨rfl, hb⟩; have hbw := hb; have hsw := hb.size) | (go_at_call 19; refine Calls.mono (by with_reducible exact hW1.out _) ?_; rintro e w' ⟨rfl, rfl⟩) | (go_at_call 19; refine Calls.mono (by with_reducible exact hW2.out _) ?_; rintro e w' ⟨rfl, rfl⟩))
    go_ret
    exact ⟨rfl, hbw⟩
  rw [h1] at hW1
  obtain ⟨r1, r2⟩ := within_true h1
  cases h2 : within L 1 3000
  · rw [h2] at hW2
    clear h1 h2
    go_enter Try.func8, Try.ntmps8
    go_wp2_with (first | (go_at_call 15; refine (awake_any _).mono ?_; rintro e w1 ⟨rfl, hb⟩; have hbw := hb; have hsw := hb.size) | (go_at_call 19; refine Calls.mono (by with_reducible exact hW1.out _) ?_; rintro e w' ⟨rfl, rfl⟩) | (go_at_call 19; refine Calls.mono (by with_reducible exact hW2.out _) ?_; rintro e w' ⟨rfl, rfl⟩))
    go_ret
    exact ⟨rfl, hbw⟩
  rw [h2] at hW2
  obtain ⟨l1, l2⟩ := within_true h2
  have hR := cyl_right r1 r2 l1 l2
  have hK : (checkC ({ data := #[99] } : ByteArray).data.toList r [⟨0, r, r⟩, ⟨L, r, r⟩]).2 = 0 := by rw [cyl_check (by decide) r1 r2 l1 l2]
  have hC := Lib.hid fun b W (h : At 3 St.cs W (some ⟨b, 0, none⟩) [⟨0, r, r⟩, ⟨L, r, r⟩]) => copyCask_any { data := #[99] } r (some ⟨b, 0, none⟩) [⟨0, r, r⟩, ⟨L, r, r⟩] 2 W (by simp) (fun h => by cases h) h
  have hV := Lib.hid fun W A c (hc : 2 ≤ c) (h : At 3 St.cs W A [⟨0, r, r⟩, ⟨L, r, r⟩]) => volTo_right { data := #[99] } r A [⟨0, r, r⟩, ⟨L, r, r⟩] c r W (by decide) hc h hR hK (by omega) (by omega)
  have hO := Lib.hid fun b W (h : At 3 St.cs W (some ⟨b, 0, none⟩) [⟨0, r, r⟩, ⟨L, r, r⟩]) => volumeOf_any { data := #[99] } r (some ⟨b, 0, none⟩) [⟨0, r, r⟩, ⟨L, r, r⟩] 2 W (by decide) (by simp) h
  rw [hK] at hO
  unfold volOfV at hO
  simp only [if_true] at hO
  have ev := area_even r (by omega)
  have hbt := area_between r r1 r2
  have ha := area_more r 0 (by omega) (by omega) (by omega) (by omega)
  rw [cyl_toV, show r - r = 0 by omega] at hV
  rw [cyl_toV, show 2 * r - r = r by omega, ev.1, ev.2] at hO
  rw [ev.1, ev.2] at hbt
  simp only [List.length_cons, List.length_nil, Nat.zero_add, Nat.reduceAdd] at hC hV hO
  generalize areaOf r 0 = a at *
  obtain ⟨a1, a2⟩ := a
  dsimp only at *
  have s1 := sq_mono (by omega : 0 ≤ r) r2
  have s0 : 0 ≤ r * r := Int.mul_nonneg (by omega) (by omega)
  have t1 : 3 * r * r = 3 * (r * r) := Int.mul_assoc _ _ _
  have t2 : 4 * r * r = 4 * (r * r) := Int.mul_assoc _ _ _
  have u1 : L * (3 * r * r) ≤ L * (2 * a2) := Int.mul_le_mul_of_nonneg_left hbt.1 (by omega)
  have u2 : L * (2 * a1) ≤ L * (4 * r * r) := Int.mul_le_mul_of_nonneg_left hbt.2 (by omega)
  have v1 : L * (2 * a1) = 2 * (L * a1) := by rw [← Int.mul_assoc, Int.mul_comm L 2, Int.mul_assoc]
  have v2 : L * (2 * a2) = 2 * (L * a2) := by rw [← Int.mul_assoc, Int.mul_comm L 2, Int.mul_assoc]
  have w1' : 3 * r * r * L = L * (3 * r * r) := Int.mul_comm _ _
  have w2' : 4 * r * r * L = L * (4 * r * r) := Int.mul_comm _ _
  have p1 : 0 ≤ L * a1 := Int.mul_nonneg (by omega) (by omega)
  have p2 : 0 ≤ L * a2 := Int.mul_nonneg (by omega) (by omega)
  have p3 : L * a2 ≤ 3000 * 4000000 := Int.mul_le_mul l2 (by omega) (by omega) (by omega)
  have p4 : L * a1 ≤ 3000 * 4000000 := Int.mul_le_mul l2 (by omega) (by omega) (by omega)
  have p5 : L * (4 * r * r) ≤ 3000 * 14400 := Int.mul_le_mul l2 (by omega) (by omega) (by omega)
  have p6 : 0 ≤ L * (3 * r * r) := Int.mul_nonneg (by omega) (by omega)
  have p7 : L * (3 * r * r) ≤ 3000 * 10800 := Int.mul_le_mul l2 (by omega) (by omega) (by omega)
  have p8 : 0 ≤ L * (4 * r * r) := Int.mul_nonneg (by omega) (by omega)
  rw [v1] at u2
  rw [v2] at u1
  rw [v1, v2] at hO
  have x1 : 0 ≤ 3 * r * r ∧ 3 * r * r ≤ 10800 := by omega
  have x2 : 0 ≤ 4 * r * r ∧ 4 * r * r ≤ 14400 := by omega
  have x3 : 0 ≤ 3 * r * r * L ∧ 3 * r * r * L ≤ 32400000 := by omega
  have x4 : 0 ≤ 4 * r * r * L ∧ 4 * r * r * L ≤ 43200000 := by omega
  obtain ⟨H1, e1⟩ : ∃ x, L * a1 / 100000 = x := ⟨_, rfl⟩
  obtain ⟨H2, e2⟩ : ∃ x, -(-(L * a2) / 100000) = x := ⟨_, rfl⟩
  obtain ⟨A1, e3⟩ : ∃ x, 2 * (L * a1) / 100000 = x := ⟨_, rfl⟩
  obtain ⟨A2, e4⟩ : ∃ x, -(-(2 * (L * a2)) / 100000) = x := ⟨_, rfl⟩
  rw [e1, e2] at hV
  rw [e3, e4] at hO
  have y1 : 2 * H1 ≤ A1 := by omega
  have y2 : A2 ≤ 2 * H2 := by omega
  have y3 : 0 ≤ cmp1 A2 (3 * r * r * L) 100000 := cmp1_ge (by omega)
  have y4 : cmp1 A1 (4 * r * r * L) 100000 ≤ 0 := cmp1_le (by omega)
  have y5 : 0 ≤ H1 ∧ H1 ≤ 1000000 := by omega
  have y6 : 0 ≤ H2 ∧ H2 ≤ 1000000 := by omega
  have y7 : 0 ≤ A1 ∧ A1 ≤ 1000000 := by omega
  have y8 : 0 ≤ A2 ∧ A2 ≤ 1000000 := by omega
  have hX := Lib.hid fun W => compare1_any A2 (3 * r * r * L) W (by omega) (by omega) (by omega) (by omega)
  have hY := Lib.hid fun W => compare1_any A1 (4 * r * r * L) W (by omega) (by omega) (by omega) (by omega)
  generalize cmp1 A2 (3 * r * r * L) 100000 = c1 at *
  generalize cmp1 A1 (4 * r * r * L) 100000 = c2 at *
  clear h1 h2 hR hK ev hbt ha s1 s0 t1 t2 u1 u2 v1 v2 w1' w2' p1 p2 p3 p4 p5 p6 p7 p8 e1 e2 e3 e4
  go_enter Try.func8, Try.ntmps8
  go_wp2_with (first | (go_at_call 15; refine (awake_any _).mono ?_; rintro e w1 ⟨rfl, hb⟩; have hbw := hb; have hsw := hb.size) | (go_at_call 19; refine Calls.mono (by with_reducible exact hW1.out _) ?_; rintro e w' ⟨rfl, rfl⟩) | (go_at_call 19; refine Calls.mono (by with_reducible exact hW2.out _) ?_; rintro e w' ⟨rfl, rfl⟩) | (go_at_call 22; refine (hC.out w1.heap.size _ ?_).mono ?_; (· exact at_cyl (bk_alloc (bk_new _ _ rfl) _)); rintro e w2 ⟨⟨A3, c3, rfl, hat3, hc3⟩, hb⟩; have hbw := via (by go_grown : Below w.heap.size w _) hb; have BS : w2.heap[w1.heap.size]? = some (.cells #[.int .i64 0, .int .i64 r, .int .i64 r, .int .i64 L, .int .i64 r, .int .i64 r] 44 (0, 0)) := bk_keep hb (by (repeat (first | assumption | exact bk_new _ _ (by simp) | refine bk_drew ?_ | refine bk_alloc ?_ _ | refine bk_set ?_ (by simp <;> omega) _))); have BF : w2.heap[w1.heap.size + 1]? = some (.cells #[.string { data := #[99] }, .int .i64 r, .slice (some ⟨w1.heap.size, 0, none⟩) 2 2] 34 (0, 0)) := bk_keep hb (by (repeat (first | assumption | exact bk_new _ _ (by simp) | refine bk_drew ?_ | refine bk_alloc ?_ _ | refine bk_set ?_ (by simp <;> omega) _))); have CF := bk3 BF) | (go_at_call 21; refine (hV.out _ _ _ hc3 hat3).mono ?_; rintro e w3 ⟨rfl, hb⟩; have hbw := via hbw hb; replace BS := bk_keep hb BS; replace BF := bk_keep hb BF; replace CF := bk3 BF) | (go_at_call 33; refine (hO.out w1.heap.size _ ?_).mono ?_; (· exact at_cyl (bk_alloc BS _)); rintro e w4 ⟨rfl, hb⟩; have hbw := via (by go_grown : Below w.heap.size w _) hb; have BH : w4.heap[w3.heap.size]? = some (.cells #[.int .i64 H1, .int .i64 H2] 24 (0, 0)) := bk_keep hb (by (repeat (first | assumption | exact bk_new _ _ (by simp) | refine bk_drew ?_ | refine bk_alloc ?_ _ | refine bk_set ?_ (by simp <;> omega) _))); have CH := bk2 BH) | (go_at_call 35; refine Calls.mono (by with_reducible exact hX.out _) ?_; rintro e w' ⟨rfl, rfl⟩) | (go_at_call 35; refine Calls.mono (by with_reducible exact hY.out _) ?_; rintro e w' ⟨rfl, rfl⟩))
  go_ret
  exact ⟨rfl, by go_grown⟩
end Go.Proofs
