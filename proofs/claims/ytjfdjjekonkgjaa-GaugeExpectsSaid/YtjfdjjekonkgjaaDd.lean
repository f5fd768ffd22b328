import Derived.Test.YtjfdjjekonkgjaaDc
set_option linter.unusedSimpArgs false
set_option linter.unusedVariables false
namespace Go.Proofs
open Go.RowKit

theorem At.one' {α : Type} {sz : Nat} {cs : α → List Value} {w : World} {A : Option Addr} {l : List α} (h : At sz cs w A l) {i : Nat} {x : α} (hi : l[i]? = some x) :
    ∃ b o, A = some ⟨b, o, none⟩ ∧ ∀ W, Below w.heap.size w W → b < W.heap.size ∧ (∀ k v, (cs x)[k]? = some v → W.cell? ⟨b, o + i * sz + k, none⟩ = some v) := by
  obtain ⟨b, o, rfl, hb, hc⟩ := h i x hi
  exact ⟨b, o, rfl, fun W hW => ⟨Nat.lt_of_lt_of_le hb hW.size, fun k v hv => (hW.cell (p := ⟨b, o + i * sz + k, none⟩) hb).trans (hc k v hv)⟩⟩
theorem At.two' {α : Type} {sz : Nat} {cs : α → List Value} {w : World} {A : Option Addr} {l : List α} (h : At sz cs w A l) {i j : Nat} {x y : α} (hi : l[i]? = some x) (hj : l[j]? = some y) :
    ∃ b o, A = some ⟨b, o, none⟩ ∧ ∀ W, Below w.heap.size w W → b < W.heap.size ∧ (∀ k v, (cs x)[k]? = some v → W.cell? ⟨b, o + i * sz + k, none⟩ = some v) ∧ (∀ k v, (cs y)[k]? = some v → W.cell? ⟨b, o + j * sz + k, none⟩ = some v) := by
  obtain ⟨b, o, rfl, hb, hc, hc'⟩ := h.two hi hj
  exact ⟨b, o, rfl, fun W hW => ⟨Nat.lt_of_lt_of_le hb hW.size, fun k v hv => (hW.cell (p := ⟨b, o + i * sz + k, none⟩) hb).trans (hc k v hv), fun k v hv => (hW.cell (p := ⟨b, o + j * sz + k, none⟩) hb).trans (hc' k v hv)⟩⟩
/-- The error of two gaugings of a right book. -/
def pairE (rs : List Rd) (i j : Int) : Int :=
  if within i 0 (rs.length - 1) = true ∧ within j 0 (rs.length - 1) = true then
    match rs[i.toNat]?, rs[j.toNat]? with
    | some x, some y => if eqS x.c y.c = true then (if i < j ∧ x.d ≤ y.d then 0 else 9) else 13
    | _, _ => 6
  else 6
set_option maxRecDepth 100000 in
set_option maxHeartbeats 2000000 in
theorem openPair_any (l0 l1 : Int) (A A2 : Option Addr) (rs : List Rd) (ms : List Mv) (c c2 : Nat) (i j : Int) (w : World) (hnl : rs.length ≤ 4611686018427387904)
    (hs : ∀ x ∈ rs, x.c.size ≤ 9223372036854775807) (hat : At 4 Rd.cs w A rs)
    (hs2 : ∀ x ∈ ms, x.f.size ≤ 9223372036854775807 ∧ x.t.size ≤ 9223372036854775807) (hat2 : At 4 Mv.cs w A2 ms) :
    Calls Try.prog 103 #[.agg #[.int .i64 l0, .int .i64 l1, .slice A rs.length c, .slice A2 ms.length c2], .agg #[.int .i64 i, .int .i64 j]] w fun e w' =>
      e = .returned (.tuple #[.agg #[.int .i64 l0, .int .i64 l1, .slice A rs.length c, .slice A2 ms.length c2], .int .i64 (firstE [(checkB l0 l1 rs ms).2, pairE rs i j])]) ∧ Below w.heap.size w w' := by
  have hO := Lib.hid fun W hb => openBook_any l0 l1 A A2 rs ms c c2 W hs (At.below hat hb) hs2 (At.below hat2 hb)
  have hR := Lib.hid fun i W hn => readingErr_any l0 l1 A A2 rs.length c ms.length c2 i W hn
  have hat' := Lib.hid hat
  have hE0 : Hid ((checkB l0 l1 rs ms).2 = 0 → rs.length ≤ 40) := fun h => (right_of h).rn
  generalize (checkB l0 l1 rs ms).2 = E at *
  obtain ⟨n, hn⟩ : ∃ n, rs.length = n := ⟨_, rfl⟩
  have hn' := Lib.hid hn
  rw [hn] at hO hR hnl hE0 ⊢
  clear hn
  clear hs hs2 hat hat2
  by_cases hz : E = 0
  case neg =>
    have e1 : firstE [E, pairE rs i j] = E := by simp [firstE, hz]
    have e2 : firstE [E, unl (within i 0 ((n : Int) - 1)) 6, unl (within j 0 ((n : Int) - 1)) 6] = E := by simp [firstE, hz]
    rw [e1]
    have z2 : (firstE [E, unl (within i 0 ((n : Int) - 1)) 6, unl (within j 0 ((n : Int) - 1)) 6] != 0) = true := by rw [e2]; simpa using hz
    clear e1 hat' hE0 hz hn'
    have e3 := Lib.hid e2
    clear e2
    rw [← e3.out]
    go_enter Try.func103, Try.ntmps103
    go_wp2_with (go_at_call 84; refine (hO.out _ ?_).mono ?_; (· go_grown); rintro e w1 ⟨rfl, hb⟩; have hbw := via (by go_grown : Below w.heap.size w _) hb; have hsw := hbw.size; have B0 : w1.heap[w.heap.size]? = some (.cells #[.int .i64 l0, .int .i64 l1, .slice A n c, .slice A2 ms.length c2] 49 (0, 0)) := bk_keep hb (by (repeat (first | assumption | (refine bk_new _ _ ?_; (simp; done)) | refine bk_drew ?_ | refine bk_alloc ?_ _ | refine bk_set ?_ (by simp <;> omega) _))); have B1 : w1.heap[w.heap.size + 1]? = some (.cells #[.int .i64 i, .int .i64 j] 42 (0, 0)) := bk_keep hb (by (repeat (first | assumption | (refine bk_new _ _ ?_; (simp; done)) | refine bk_drew ?_ | refine bk_alloc ?_ _ | refine bk_set ?_ (by simp <;> omega) _))); have B2 : w1.heap[w.heap.size + 1 + 1]? = some (.cells #[.int .i64 0, .int .i64 0, .slice none 0 0, .slice none 0 0] 131 (0, 0)) := bk_keep hb (by (repeat (first | assumption | (refine bk_new _ _ ?_; (simp; done)) | refine bk_drew ?_ | refine bk_alloc ?_ _ | refine bk_set ?_ (by simp <;> omega) _))))
    refine wp_world ?_
    intro W hW_W
    have hb_W : Below w.heap.size w W := by rw [hW_W]; go_grown
    have N0 : W.heap[w.heap.size]? = some (.cells #[.int .i64 l0, .int .i64 l1, .slice A n c, .slice A2 ms.length c2] 49 (0, 0)) := by rw [hW_W]; exact bk_alloc B0 _
    have N1 : W.heap[w.heap.size + 1]? = some (.cells #[.int .i64 i, .int .i64 j] 42 (0, 0)) := by rw [hW_W]; exact bk_alloc B1 _
    have N2 : W.heap[w.heap.size + 1 + 1]? = some (.cells #[.int .i64 0, .int .i64 0, .slice none 0 0, .slice none 0 0] 131 (0, 0)) := by rw [hW_W]; exact bk_alloc B2 _
    have N3 : W.heap[w1.heap.size]? = some (.cells #[.int .i64 l0, .int .i64 l1, .slice A n c, .slice A2 ms.length c2] 131 (0, 0)) := by rw [hW_W]; exact bk_new _ _ rfl
    obtain ⟨X, hX⟩ : ∃ X, w1.heap.size = X := ⟨_, rfl⟩
    rw [hX] at N3 ⊢
    have hX1 : w.heap.size + 1 + 1 < X := by rw [← hX]; exact bk_size B2
    clear hW_W hX B0 B1 B2 hb hbw hsw
    have C0 := bk4 N0
    have C1 := bk2 N1
    have C2 := bk4 N2
    have C3 := bk4 N3
    refine region_in w 9 (by kernel_rfl) (by kernel_rfl) (by go_grown) ?_
    intro hgc hbx
    simp only [List.take_succ_cons, List.take_zero, List.drop_succ_cons, List.drop_zero]
    repeat (go_big_quiet_step ((go_at_call 108; exact Grew.call (hR.out _ _ (by omega)))))
    refine wpQuiet_nil ?_
    intro wa hb hbw hsw
    clear hgc hbx
    replace N0 := bk_keep hb N0
    replace N1 := bk_keep hb N1
    replace N2 := bk_keep hb N2
    replace N3 := bk_keep hb N3
    replace C0 := bk4 N0
    replace C1 := bk2 N1
    replace C2 := bk4 N2
    replace C3 := bk4 N3
    clear hb hb_W
    go_wp2_with (go_at_call 70; refine (first3n _ _ _ _ ?_).mono ?_; (· simp); rintro e w' ⟨rfl, rfl⟩)
    refine bodyPost_ret (v := .tuple #[.agg #[.int .i64 l0, .int .i64 l1, .slice A n c, .slice A2 ms.length c2], .int .i64 (firstE [E, unl (within i 0 ((n : Int) - 1)) 6, unl (within j 0 ((n : Int) - 1)) 6])]) ?_ rfl ⟨rfl, by go_grown⟩
    simp [results, Try.results103, go_sem, C2]
  subst hz
  have hn40 := hE0.out rfl
  have e0 : firstE [0, pairE rs i j] = pairE rs i j := by
    by_cases hx : pairE rs i j = 0 <;> simp [firstE, hx]
  rw [e0]
  clear e0 hE0
  unfold pairE
  rw [hn'.out]
  cases hi : within i 0 ((n : Int) - 1)
  · simp only [Bool.false_eq_true, false_and, if_false]
    have z2 : (firstE [0, unl (within i 0 ((n : Int) - 1)) 6, unl (within j 0 ((n : Int) - 1)) 6] != 0) = true := by rw [hi]; rfl
    have e3 : Hid (firstE [0, unl (within i 0 ((n : Int) - 1)) 6, unl (within j 0 ((n : Int) - 1)) 6] = 6) := by unfold Hid; rw [hi]; rfl
    clear hat' hi hn'
    rw [← e3.out]
    go_enter Try.func103, Try.ntmps103
    go_wp2_with (go_at_call 84; refine (hO.out _ ?_).mono ?_; (· go_grown); rintro e w1 ⟨rfl, hb⟩; have hbw := via (by go_grown : Below w.heap.size w _) hb; have hsw := hbw.size; have B0 : w1.heap[w.heap.size]? = some (.cells #[.int .i64 l0, .int .i64 l1, .slice A n c, .slice A2 ms.length c2] 49 (0, 0)) := bk_keep hb (by (repeat (first | assumption | (refine bk_new _ _ ?_; (simp; done)) | refine bk_drew ?_ | refine bk_alloc ?_ _ | refine bk_set ?_ (by simp <;> omega) _))); have B1 : w1.heap[w.heap.size + 1]? = some (.cells #[.int .i64 i, .int .i64 j] 42 (0, 0)) := bk_keep hb (by (repeat (first | assumption | (refine bk_new _ _ ?_; (simp; done)) | refine bk_drew ?_ | refine bk_alloc ?_ _ | refine bk_set ?_ (by simp <;> omega) _))); have B2 : w1.heap[w.heap.size + 1 + 1]? = some (.cells #[.int .i64 0, .int .i64 0, .slice none 0 0, .slice none 0 0] 131 (0, 0)) := bk_keep hb (by (repeat (first | assumption | (refine bk_new _ _ ?_; (simp; done)) | refine bk_drew ?_ | refine bk_alloc ?_ _ | refine bk_set ?_ (by simp <;> omega) _))))
    refine wp_world ?_
    intro W hW_W
    have hb_W : Below w.heap.size w W := by rw [hW_W]; go_grown
    have N0 : W.heap[w.heap.size]? = some (.cells #[.int .i64 l0, .int .i64 l1, .slice A n c, .slice A2 ms.length c2] 49 (0, 0)) := by rw [hW_W]; exact bk_alloc B0 _
    have N1 : W.heap[w.heap.size + 1]? = some (.cells #[.int .i64 i, .int .i64 j] 42 (0, 0)) := by rw [hW_W]; exact bk_alloc B1 _
    have N2 : W.heap[w.heap.size + 1 + 1]? = some (.cells #[.int .i64 0, .int .i64 0, .slice none 0 0, .slice none 0 0] 131 (0, 0)) := by rw [hW_W]; exact bk_alloc B2 _
    have N3 : W.heap[w1.heap.size]? = some (.cells #[.int .i64 l0, .int .i64 l1, .slice A n c, .slice A2 ms.length c2] 131 (0, 0)) := by rw [hW_W]; exact bk_new _ _ rfl
    obtain ⟨X, hX⟩ : ∃ X, w1.heap.size = X := ⟨_, rfl⟩
    rw [hX] at N3 ⊢
    have hX1 : w.heap.size + 1 + 1 < X := by rw [← hX]; exact bk_size B2
    clear hW_W hX B0 B1 B2 hb hbw hsw
    have C0 := bk4 N0
    have C1 := bk2 N1
    have C2 := bk4 N2
    have C3 := bk4 N3
    refine region_in w 9 (by kernel_rfl) (by kernel_rfl) (by go_grown) ?_
    intro hgc hbx
    simp only [List.take_succ_cons, List.take_zero, List.drop_succ_cons, List.drop_zero]
    repeat (go_big_quiet_step ((go_at_call 108; exact Grew.call (hR.out _ _ (by omega)))))
    refine wpQuiet_nil ?_
    intro wa hb hbw hsw
    clear hgc hbx
    replace N0 := bk_keep hb N0
    replace N1 := bk_keep hb N1
    replace N2 := bk_keep hb N2
    replace N3 := bk_keep hb N3
    replace C0 := bk4 N0
    replace C1 := bk2 N1
    replace C2 := bk4 N2
    replace C3 := bk4 N3
    clear hb hb_W
    go_wp2_with (go_at_call 70; refine (first3n _ _ _ _ ?_).mono ?_; (· simp); rintro e w' ⟨rfl, rfl⟩)
    refine bodyPost_ret (v := .tuple #[.agg #[.int .i64 l0, .int .i64 l1, .slice A n c, .slice A2 ms.length c2], .int .i64 (firstE [0, unl (within i 0 ((n : Int) - 1)) 6, unl (within j 0 ((n : Int) - 1)) 6])]) ?_ rfl ⟨rfl, by go_grown⟩
    simp [results, Try.results103, go_sem, C2]
  cases hj : within j 0 ((n : Int) - 1)
  · simp only [Bool.false_eq_true, and_false, if_false]
    have z2 : (firstE [0, unl (within i 0 ((n : Int) - 1)) 6, unl (within j 0 ((n : Int) - 1)) 6] != 0) = true := by rw [hi, hj]; rfl
    have e3 : Hid (firstE [0, unl (within i 0 ((n : Int) - 1)) 6, unl (within j 0 ((n : Int) - 1)) 6] = 6) := by unfold Hid; rw [hi, hj]; rfl
    clear hat' hi hj hn'
    rw [← e3.out]
    go_enter Try.func103, Try.ntmps103
    go_wp2_with (go_at_call 84; refine (hO.out _ ?_).mono ?_; (· go_grown); rintro e w1 ⟨rfl, hb⟩; have hbw := via (by go_grown : Below w.heap.size w _) hb; have hsw := hbw.size; have B0 : w1.heap[w.heap.size]? = some (.cells #[.int .i64 l0, .int .i64 l1, .slice A n c, .slice A2 ms.length c2] 49 (0, 0)) := bk_keep hb (by (repeat (first | assumption | (refine bk_new _ _ ?_; (simp; done)) | refine bk_drew ?_ | refine bk_alloc ?_ _ | refine bk_set ?_ (by simp <;> omega) _))); have B1 : w1.heap[w.heap.size + 1]? = some (.cells #[.int .i64 i, .int .i64 j] 42 (0, 0)) := bk_keep hb (by (repeat (first | assumption | (refine bk_new _ _ ?_; (simp; done)) | refine bk_drew ?_ | refine bk_alloc ?_ _ | refine bk_set ?_ (by simp <;> omega) _))); have B2 : w1.heap[w.heap.size + 1 + 1]? = some (.cells #[.int .i64 0, .int .i64 0, .slice none 0 0, .slice none 0 0] 131 (0, 0)) := bk_keep hb (by (repeat (first | assumption | (refine bk_new _ _ ?_; (simp; done)) | refine bk_drew ?_ | refine bk_alloc ?_ _ | refine bk_set ?_ (by simp <;> omega) _))))
    refine wp_world ?_
    intro W hW_W
    have hb_W : Below w.heap.size w W := by rw [hW_W]; go_grown
    have N0 : W.heap[w.heap.size]? = some (.cells #[.int .i64 l0, .int .i64 l1, .slice A n c, .slice A2 ms.length c2] 49 (0, 0)) := by rw [hW_W]; exact bk_alloc B0 _
    have N1 : W.heap[w.heap.size + 1]? = some (.cells #[.int .i64 i, .int .i64 j] 42 (0, 0)) := by rw [hW_W]; exact bk_alloc B1 _
    have N2 : W.heap[w.heap.size + 1 + 1]? = some (.cells #[.int .i64 0, .int .i64 0, .slice none 0 0, .slice none 0 0] 131 (0, 0)) := by rw [hW_W]; exact bk_alloc B2 _
    have N3 : W.heap[w1.heap.size]? = some (.cells #[.int .i64 l0, .int .i64 l1, .slice A n c, .slice A2 ms.length c2] 131 (0, 0)) := by rw [hW_W]; exact bk_new _ _ rfl
    obtain ⟨X, hX⟩ : ∃ X, w1.heap.size = X := ⟨_, rfl⟩
    rw [hX] at N3 ⊢
    have hX1 : w.heap.size + 1 + 1 < X := by rw [← hX]; exact bk_size B2
    clear hW_W hX B0 B1 B2 hb hbw hsw
    have C0 := bk4 N0
    have C1 := bk2 N1
    have C2 := bk4 N2
    have C3 := bk4 N3
    refine region_in w 9 (by kernel_rfl) (by kernel_rfl) (by go_grown) ?_
    intro hgc hbx
    simp only [List.take_succ_cons, List.take_zero, List.drop_succ_cons, List.drop_zero]
    repeat (go_big_quiet_step ((go_at_call 108; exact Grew.call (hR.out _ _ (by omega)))))
    refine wpQuiet_nil ?_
    intro wa hb hbw hsw
    clear hgc hbx
    replace N0 := bk_keep hb N0
    replace N1 := bk_keep hb N1
    replace N2 := bk_keep hb N2
    replace N3 := bk_keep hb N3
    replace C0 := bk4 N0
    replace C1 := bk2 N1
    replace C2 := bk4 N2
    replace C3 := bk4 N3
    clear hb hb_W
    go_wp2_with (go_at_call 70; refine (first3n _ _ _ _ ?_).mono ?_; (· simp); rintro e w' ⟨rfl, rfl⟩)
    refine bodyPost_ret (v := .tuple #[.agg #[.int .i64 l0, .int .i64 l1, .slice A n c, .slice A2 ms.length c2], .int .i64 (firstE [0, unl (within i 0 ((n : Int) - 1)) 6, unl (within j 0 ((n : Int) - 1)) 6])]) ?_ rfl ⟨rfl, by go_grown⟩
    simp [results, Try.results103, go_sem, C2]
  simp only [true_and, if_true]
  obtain ⟨i1, i2⟩ := within_true hi
  obtain ⟨j1, j2⟩ := within_true hj
  obtain ⟨a, rfl⟩ : ∃ a : Nat, i = a := ⟨i.toNat, by omega⟩
  obtain ⟨b, rfl⟩ : ∃ b : Nat, j = b := ⟨j.toNat, by omega⟩
  have z2 : (firstE [0, unl (within (a : Int) 0 ((n : Int) - 1)) 6, unl (within (b : Int) 0 ((n : Int) - 1)) 6] != 0) = false := by rw [hi, hj]; rfl
  obtain ⟨x, hx⟩ : ∃ x, rs[a]? = some x := ⟨_, List.getElem?_eq_getElem (by rw [hn'.out]; omega)⟩
  obtain ⟨y, hy⟩ : ∃ y, rs[b]? = some y := ⟨_, List.getElem?_eq_getElem (by rw [hn'.out]; omega)⟩
  rw [Int.toNat_natCast, Int.toNat_natCast, hx, hy]
  dsimp only
  obtain ⟨xc, xd, xl, xh⟩ := x
  obtain ⟨yc, yd, yl, yh⟩ := y
  unfold eqS
  dsimp only
  obtain ⟨q, hq⟩ : ∃ q, (xc.toList == yc.toList) = q := ⟨_, rfl⟩
  rw [hq]
  obtain ⟨bb, o, rfl, hxy'⟩ := hat'.out.two' hx hy
  have hxy := Lib.hid hxy'
  clear hxy'
  have hi3 : (a : Int) < (n : Int) := by omega
  have hj3 : (b : Int) < (n : Int) := by omega
  clear hi hj hx hy hat' hn' i2 j2
  go_enter Try.func103, Try.ntmps103
  go_wp2_with (go_at_call 84; refine (hO.out _ ?_).mono ?_; (· go_grown); rintro e w1 ⟨rfl, hb⟩; have hbw := via (by go_grown : Below w.heap.size w _) hb; have hsw := hbw.size; have B0 : w1.heap[w.heap.size]? = some (.cells #[.int .i64 l0, .int .i64 l1, .slice (some ⟨bb, o, none⟩) n c, .slice A2 ms.length c2] 49 (0, 0)) := bk_keep hb (by (repeat (first | assumption | (refine bk_new _ _ ?_; (simp; done)) | refine bk_drew ?_ | refine bk_alloc ?_ _ | refine bk_set ?_ (by simp <;> omega) _))); have B1 : w1.heap[w.heap.size + 1]? = some (.cells #[.int .i64 (a : Int), .int .i64 (b : Int)] 42 (0, 0)) := bk_keep hb (by (repeat (first | assumption | (refine bk_new _ _ ?_; (simp; done)) | refine bk_drew ?_ | refine bk_alloc ?_ _ | refine bk_set ?_ (by simp <;> omega) _))); have B2 : w1.heap[w.heap.size + 1 + 1]? = some (.cells #[.int .i64 0, .int .i64 0, .slice none 0 0, .slice none 0 0] 131 (0, 0)) := bk_keep hb (by (repeat (first | assumption | (refine bk_new _ _ ?_; (simp; done)) | refine bk_drew ?_ | refine bk_alloc ?_ _ | refine bk_set ?_ (by simp <;> omega) _))))
  refine wp_world ?_
  intro W hW_W
  have hb_W : Below w.heap.size w W := by rw [hW_W]; go_grown
  have N0 : W.heap[w.heap.size]? = some (.cells #[.int .i64 l0, .int .i64 l1, .slice (some ⟨bb, o, none⟩) n c, .slice A2 ms.length c2] 49 (0, 0)) := by rw [hW_W]; exact bk_alloc B0 _
  have N1 : W.heap[w.heap.size + 1]? = some (.cells #[.int .i64 (a : Int), .int .i64 (b : Int)] 42 (0, 0)) := by rw [hW_W]; exact bk_alloc B1 _
  have N2 : W.heap[w.heap.size + 1 + 1]? = some (.cells #[.int .i64 0, .int .i64 0, .slice none 0 0, .slice none 0 0] 131 (0, 0)) := by rw [hW_W]; exact bk_alloc B2 _
  have N3 : W.heap[w1.heap.size]? = some (.cells #[.int .i64 l0, .int .i64 l1, .slice (some ⟨bb, o, none⟩) n c, .slice A2 ms.length c2] 131 (0, 0)) := by rw [hW_W]; exact bk_new _ _ rfl
  obtain ⟨X, hX⟩ : ∃ X, w1.heap.size = X := ⟨_, rfl⟩
  rw [hX] at N3 ⊢
  have hX1 : w.heap.size + 1 + 1 < X := by rw [← hX]; exact bk_size B2
  clear hW_W hX B0 B1 B2 hb hbw hsw
  have C0 := bk4 N0
  have C1 := bk2 N1
  have C2 := bk4 N2
  have C3 := bk4 N3
  refine region_in w 9 (by kernel_rfl) (by kernel_rfl) (by go_grown) ?_
  intro hgc hbx
  simp only [List.take_succ_cons, List.take_zero, List.drop_succ_cons, List.drop_zero]
  repeat (go_big_quiet_step ((go_at_call 108; exact Grew.call (hR.out _ _ (by omega)))))
  refine wpQuiet_nil ?_
  intro wa hb hbw hsw
  clear hgc hbx
  replace N0 := bk_keep hb N0
  replace N1 := bk_keep hb N1
  replace N2 := bk_keep hb N2
  replace N3 := bk_keep hb N3
  replace C0 := bk4 N0
  replace C1 := bk2 N1
  replace C2 := bk4 N2
  replace C3 := bk4 N3
  clear hb hb_W
  have hbw' := hbw
  go_wp2_with (go_at_call 70; refine (first3n _ _ _ _ ?_).mono ?_; (· simp); rintro e w' ⟨rfl, rfl⟩)
  refine wp_world ?_
  intro V hW_V
  have hb_V : Below w.heap.size w V := by rw [hW_V]; go_grown
  have M0 : V.heap[w.heap.size]? = some (.cells #[.int .i64 l0, .int .i64 l1, .slice (some ⟨bb, o, none⟩) n c, .slice A2 ms.length c2] 49 (0, 0)) := by rw [hW_V]; exact bk_alloc N0 _
  have M1 : V.heap[w.heap.size + 1]? = some (.cells #[.int .i64 (a : Int), .int .i64 (b : Int)] 42 (0, 0)) := by rw [hW_V]; exact bk_alloc N1 _
  have M2 : V.heap[w.heap.size + 1 + 1]? = some (.cells #[.int .i64 0, .int .i64 0, .slice none 0 0, .slice none 0 0] 131 (0, 0)) := by rw [hW_V]; exact bk_alloc N2 _
  have M3 : V.heap[X]? = some (.cells #[.int .i64 l0, .int .i64 l1, .slice (some ⟨bb, o, none⟩) n c, .slice A2 ms.length c2] 131 (0, 0)) := by rw [hW_V]; exact bk_alloc N3 _
  clear hW_V N0 N1 N2 N3 C0 C1 C2 C3 hbw hbw' hsw
  apply region_two w 12 14 13 15 (.cells #[.string { data := #[] }, .int .i64 0, .int .i64 0, .int .i64 0] 73 (0, 0)) (.cells #[.string xc, .int .i64 xd, .int .i64 xl, .int .i64 xh] 73 (0, 0)) (.cells #[.string { data := #[] }, .int .i64 0, .int .i64 0, .int .i64 0] 73 (0, 0)) (.cells #[.string yc, .int .i64 yd, .int .i64 yl, .int .i64 yh] 73 (0, 0))
  case hm => kernel_rfl
  case hB => kernel_rfl
  case hB' => intro g; kernel_rfl
  case hS => kernel_rfl
  case hN => kernel_rfl
  case hne => decide
  case ht => kernel_rfl
  case ht2 => kernel_rfl
  case hw => exact hb_V
  case hal1 => intro o ho; simp at ho; subst ho; intro a x; kernel_rfl
  case hal2 => intro o ho; simp at ho; subst ho; intro a x; kernel_rfl
  case hq =>
    intro g u hu hgc hbx hbX
    have D0 := bk4 (bk_keep hu M0)
    have D1 := bk2 (bk_keep hu M1)
    obtain ⟨hbb, hcx, hcy⟩ := hxy.out u (via hb_V hu)
    have x0 := hcx 0 _ rfl
    have x1 := hcx 1 _ rfl
    have x2 := hcx 2 _ rfl
    have x3 := hcx 3 _ rfl
    have y0 := hcy 0 _ rfl
    have y1 := hcy 1 _ rfl
    have y2 := hcy 2 _ rfl
    have y3 := hcy 3 _ rfl
    simp only [Nat.add_zero] at x0 y0
    dsimp only at x0 x1 x2 x3 y0 y1 y2 y3
    clear hcx hcy
    simp only [mixL, mkP, yieldsC, List.contains_cons, List.contains_nil, Nat.reduceAdd, Nat.reduceBEq, Nat.zero_add, Bool.or_false, Bool.or_true, Bool.false_or, Bool.true_or, Bool.false_eq_true, if_true, if_false, Bool.or_self]
    repeat (go_big_quiet_step (fail))
    exact wpQuiet_nil rfl
  case hind => intro j hj; simp only [List.mem_cons, List.not_mem_nil, or_false] at hj; rcases hj with rfl | rfl | rfl | rfl <;> (intro g h; kernel_rfl)
  case hs1 =>
    intro o ho g x hx hz
    simp only [List.getElem?_cons_succ, List.getElem?_cons_zero, Option.some.injEq] at ho
    subst ho
    exact ⟨_, run_store4 rfl rfl rfl rfl rfl (by kernel_rfl) (by kernel_rfl) (by kernel_rfl) hz, ((((OnlyB.refl _ _).set _ _).set _ _).set _ _).set _ _, bk_here (bk_here (bk_here (bk_here hz _ rfl) _ rfl) _ rfl) _ rfl⟩
  case hs2 =>
    intro o ho g x hx hz
    simp only [List.getElem?_cons_succ, List.getElem?_cons_zero, Option.some.injEq] at ho
    subst ho
    exact ⟨_, run_store4 rfl rfl rfl rfl rfl (by kernel_rfl) (by kernel_rfl) (by kernel_rfl) hz, ((((OnlyB.refl _ _).set _ _).set _ _).set _ _).set _ _, bk_here (bk_here (bk_here (bk_here hz _ rfl) _ rfl) _ rfl) _ rfl⟩
  case hend =>
  intro g u hB1 hB2 hBne hu hbw E1 E2
  generalize (g 12).b = B1 at *
  generalize (g 13).b = B2 at *
  have C0 := bk4 (bk_keep hu M0)
  have C1 := bk2 (bk_keep hu M1)
  have C2 := bk4 (bk_keep hu M2)
  have C3 := bk4 (bk_keep hu M3)
  have CE1 := bk4 E1
  have CE2 := bk4 E2
  have N2 := bk_keep hu M2
  have hB1' : w.heap.size + 1 + 1 < B1 := by have := bk_size M2; omega
  have hB2' : w.heap.size + 1 + 1 < B2 := by have := bk_size M2; omega
  have K1 := bk_keep hu M1
  have K3 := bk_keep hu M3
  clear C2 hxy hu hb_V M0 M1 M2 M3 hB1 hB2
  by_cases h1 : a < b
  · have i1 : (a : Int) < (b : Int) := by omega
    have d1 : decide (a < b) = true := decide_eq_true h1
    have d2 : decide ((a : Int) < (b : Int)) = true := decide_eq_true i1
    by_cases h2 : xd ≤ yd
    · have d3 : decide (xd ≤ yd) = true := decide_eq_true h2
      cases q
      · have hval : Hid (firstE [unl false 13, unl true 9] = if false = true then if (a : Int) < (b : Int) ∧ xd ≤ yd then 0 else 9 else 13) := by
          unfold Hid
          simp [firstE, unl] <;> omega
        go_wp2_with fail
        apply region_mixC w (fun x => Below w.heap.size w x ∧ x.heap[X]? = some (.cells #[.int .i64 l0, .int .i64 l1, .slice (some ⟨bb, o, none⟩) n c, .slice A2 ms.length c2] 131 (0, 0)) ∧ x.heap[w.heap.size + 1]? = some (.cells #[.int .i64 (a : Int), .int .i64 (b : Int)] 42 (0, 0)) ∧ x.heap[B1]? = some (.cells #[.string xc, .int .i64 xd, .int .i64 xl, .int .i64 xh] 73 (0, 0)) ∧ x.heap[B2]? = some (.cells #[.string yc, .int .i64 yd, .int .i64 yl, .int .i64 yh] 73 (0, 0)) ∧ w.heap.size + 1 + 1 < x.heap.size)
          [20, 21, 22] (fun j h => if j = 20 then .slice (some ⟨h.b, 0, none⟩) 2 2 else .int .i64 (firstE [unl false 13, unl true 9]))
          (fun L g x => (L 20 = true → x.heap[(g 20).b]? = some (.cells #[.int .i64 (unl false 13), .int .i64 (unl true 9)] 25 (0, 0)) ∧ w.heap.size + 1 + 1 < (g 20).b) ∧ x.heap[w.heap.size + 1 + 1]? = some (if L 22 = true then .cells #[.int .i64 l0, .int .i64 l1, .slice (some ⟨bb, o, none⟩) n c, .slice A2 ms.length c2] 131 (0, 0) else .cells #[.int .i64 0, .int .i64 0, .slice none 0 0, .slice none 0 0] 131 (0, 0)))
        case hm => kernel_rfl
        case hB => kernel_rfl
        case hB' => intro g; kernel_rfl
        case hS => kernel_rfl
        case hN => kernel_rfl
        case hC0 => exact ⟨hbw, K3, K1, E1, E2, bk_size N2⟩
        case hCs => exact fun x x' ⟨h1, h2, h3, h4, h5, h6⟩ hb => ⟨via h1 hb, bk_keep hb h2, bk_keep hb h3, bk_keep hb h4, bk_keep hb h5, Nat.lt_of_lt_of_le h6 hb.size⟩
        case hCw => exact fun x h => h.1
        case h0 =>
          intro L hL
          have l0 := hL 20 (by simp)
          have l2 := hL 22 (by simp)
          exact ⟨fun h => (by rw [l0] at h; cases h), by rw [l2]; exact N2⟩
        case hst =>
          intro L L' g x x' hL ⟨j1, j2⟩ hb
          have l0 := hL 20 (by simp)
          have l2 := hL 22 (by simp)
          refine ⟨fun h => ?_, by rw [l2]; exact bk_keep hb j2⟩
          rw [l0] at h
          exact ⟨bk_keep hb (j1 h).1, (j1 h).2⟩
        case hq =>
          intro g u ⟨k1, k2, k3, k4, k5, k6⟩ hgc hbx hbX
          have C1 := bk2 k3
          have C3 := bk4 k2
          have CE1 := bk4 k4
          have CE2 := bk4 k5
          simp only [mixL, yieldsC, List.contains_cons, List.contains_nil, Nat.reduceAdd, Nat.reduceBEq, Nat.reduceEqDiff, Nat.zero_add, Bool.or_false, Bool.or_true, Bool.false_or, Bool.true_or, Bool.false_eq_true, if_true, if_false, Bool.or_self]
          repeat (go_big_quiet_step ((go_at_call 71; exact Grew.call_same (unless_any _ _ _))))
          exact wpQuiet_nil rfl
        case hind => intro j hj; simp only [List.mem_cons, List.not_mem_nil, or_false] at hj; rcases hj with rfl | rfl | rfl <;> (intro g h; kernel_rfl)
        case hsp =>
          intro j hj op ho L g x ⟨j1, j2⟩ hC hb0 hL haft
          simp only [List.mem_cons, List.not_mem_nil, or_false] at hj
          have hCs : ∀ x', Below x.heap.size x x' → Below w.heap.size w x' ∧ x'.heap[X]? = some (.cells #[.int .i64 l0, .int .i64 l1, .slice (some ⟨bb, o, none⟩) n c, .slice A2 ms.length c2] 131 (0, 0)) ∧ x'.heap[w.heap.size + 1]? = some (.cells #[.int .i64 (a : Int), .int .i64 (b : Int)] 42 (0, 0)) ∧ x'.heap[B1]? = some (.cells #[.string xc, .int .i64 xd, .int .i64 xl, .int .i64 xh] 73 (0, 0)) ∧ x'.heap[B2]? = some (.cells #[.string yc, .int .i64 yd, .int .i64 yl, .int .i64 yh] 73 (0, 0)) ∧ w.heap.size + 1 + 1 < x'.heap.size := fun x' hb => by
            obtain ⟨h1, h2, h3, h4, h5, h6⟩ := hC
            exact ⟨via h1 hb, bk_keep hb h2, bk_keep hb h3, bk_keep hb h4, bk_keep hb h5, Nat.lt_of_lt_of_le h6 hb.size⟩
          rcases hj with rfl | rfl | rfl
          · simp only [List.getElem?_cons_succ, List.getElem?_cons_zero, Option.some.injEq] at ho
            subst ho
            refine does_value (v := .slice (some ⟨x.heap.size, 0, none⟩) 2 2) (x := x.alloc (.cells #[.int .i64 (unl false 13), .int .i64 (unl true 9)] 25)) (by kernel_rfl) ⟨hCs _ (new_below _ _), .inr ⟨{ Gh.zero with b := x.heap.size }, rfl, fun _ => ?_, ?_⟩⟩
            · rw [upd_self]
              exact ⟨bk_new _ _ rfl, hC.2.2.2.2.2⟩
            · rw [setL_ne (by decide)]
              exact bk_alloc j2 _
          · simp only [List.getElem?_cons_succ, List.getElem?_cons_zero, Option.some.injEq] at ho
            subst ho
            have l20 : L 20 = true := haft ⟨20, .data⟩ (by simp) rfl
            obtain ⟨p1, p2⟩ := j1 l20
            have Cp := bk2 p1
            refine does_enter (f := 70) (args := #[.slice (some ⟨(g 20).b, 0, none⟩) 2 2]) (x := x) (by kernel_rfl) ((first_any [unl false 13, unl true 9] (g 20).b x (by simp) (fun k hk => by match k, hk with | 0, _ => exact Cp.1 | 1, _ => exact Cp.2.1)).mono ?_)
            rintro e x' ⟨rfl, rfl⟩
            refine ⟨_, rfl, hC, .inr ⟨Gh.zero, rfl, fun _ => ?_, ?_⟩⟩
            · rw [upd_ne (by decide)]
              exact ⟨p1, p2⟩
            · rw [setL_ne (by decide)]
              exact j2
          · simp only [List.getElem?_cons_succ, List.getElem?_cons_zero, Option.some.injEq] at ho
            subst ho
            rw [if_neg (by rw [hL]; decide)] at j2
            obtain ⟨h1, h2, h3, h4, h5, h6⟩ := hC
            refine does_skip (run_store4 (v0 := .int .i64 l0) (v1 := .int .i64 l1) (v2 := .slice (some ⟨bb, o, none⟩) n c) (v3 := .slice A2 ms.length c2) rfl rfl rfl rfl rfl (by kernel_rfl) (by kernel_rfl) (by kernel_rfl) j2) ⟨⟨by go_grown, ?_, ?_, ?_, ?_, by simpa using h6⟩, .inl ⟨rfl, fun h => ?_, ?_⟩⟩
            · exact bk_set (bk_set (bk_set (bk_set h2 (by dsimp only; omega) _) (by dsimp only; omega) _) (by dsimp only; omega) _) (by dsimp only; omega) _
            · exact bk_set (bk_set (bk_set (bk_set h3 (by dsimp only; omega) _) (by dsimp only; omega) _) (by dsimp only; omega) _) (by dsimp only; omega) _
            · exact bk_set (bk_set (bk_set (bk_set h4 (by dsimp only; omega) _) (by dsimp only; omega) _) (by dsimp only; omega) _) (by dsimp only; omega) _
            · exact bk_set (bk_set (bk_set (bk_set h5 (by dsimp only; omega) _) (by dsimp only; omega) _) (by dsimp only; omega) _) (by dsimp only; omega) _
            · rw [setL_ne (by decide)] at h
              exact ⟨bk_set (bk_set (bk_set (bk_set (j1 h).1 (by have := (j1 h).2; dsimp only; omega) _) (by have := (j1 h).2; dsimp only; omega) _) (by have := (j1 h).2; dsimp only; omega) _) (by have := (j1 h).2; dsimp only; omega) _, (j1 h).2⟩
            · rw [setL_self]
              exact bk_here (bk_here (bk_here (bk_here j2 _ rfl) _ rfl) _ rfl) _ rfl
        case hend =>
          intro g x ⟨j1, j2⟩ hC hb0
          rw [if_pos rfl] at j2
          have C2 := bk4 j2
          have hsx := hC.2.2.2.2.2
          clear hC j1
          go_wp2
          refine bodyPost_ret (v := .tuple #[.agg #[.int .i64 l0, .int .i64 l1, .slice (some ⟨bb, o, none⟩) n c, .slice A2 ms.length c2], .int .i64 (firstE [unl false 13, unl true 9])]) ?_ rfl ⟨?_, hb0⟩
          · simp [results, Try.results103, go_sem, C2]
          · first | (rw [hval.out]; done) | rfl | (simp; done) | (simp; omega)
      · have hval : Hid (firstE [unl true 13, unl true 9] = if true = true then if (a : Int) < (b : Int) ∧ xd ≤ yd then 0 else 9 else 13) := by
          unfold Hid
          simp [firstE, unl] <;> omega
        go_wp2_with fail
        apply region_mixC w (fun x => Below w.heap.size w x ∧ x.heap[X]? = some (.cells #[.int .i64 l0, .int .i64 l1, .slice (some ⟨bb, o, none⟩) n c, .slice A2 ms.length c2] 131 (0, 0)) ∧ x.heap[w.heap.size + 1]? = some (.cells #[.int .i64 (a : Int), .int .i64 (b : Int)] 42 (0, 0)) ∧ x.heap[B1]? = some (.cells #[.string xc, .int .i64 xd, .int .i64 xl, .int .i64 xh] 73 (0, 0)) ∧ x.heap[B2]? = some (.cells #[.string yc, .int .i64 yd, .int .i64 yl, .int .i64 yh] 73 (0, 0)) ∧ w.heap.size + 1 + 1 < x.heap.size)
          [20, 21, 22] (fun j h => if j = 20 then .slice (some ⟨h.b, 0, none⟩) 2 2 else .int .i64 (firstE [unl true 13, unl true 9]))
          (fun L g x => (L 20 = true → x.heap[(g 20).b]? = some (.cells #[.int .i64 (unl true 13), .int .i64 (unl true 9)] 25 (0, 0)) ∧ w.heap.size + 1 + 1 < (g 20).b) ∧ x.heap[w.heap.size + 1 + 1]? = some (if L 22 = true then .cells #[.int .i64 l0, .int .i64 l1, .slice (some ⟨bb, o, none⟩) n c, .slice A2 ms.length c2] 131 (0, 0) else .cells #[.int .i64 0, .int .i64 0, .slice none 0 0, .slice none 0 0] 131 (0, 0)))
        case hm => kernel_rfl
        case hB => kernel_rfl
        case hB' => intro g; kernel_rfl
        case hS => kernel_rfl
        case hN => kernel_rfl
        case hC0 => exact ⟨hbw, K3, K1, E1, E2, bk_size N2⟩
        case hCs => exact fun x x' ⟨h1, h2, h3, h4, h5, h6⟩ hb => ⟨via h1 hb, bk_keep hb h2, bk_keep hb h3, bk_keep hb h4, bk_keep hb h5, Nat.lt_of_lt_of_le h6 hb.size⟩
        case hCw => exact fun x h => h.1
        case h0 =>
          intro L hL
          have l0 := hL 20 (by simp)
          have l2 := hL 22 (by simp)
          exact ⟨fun h => (by rw [l0] at h; cases h), by rw [l2]; exact N2⟩
        case hst =>
          intro L L' g x x' hL ⟨j1, j2⟩ hb
          have l0 := hL 20 (by simp)
          have l2 := hL 22 (by simp)
          refine ⟨fun h => ?_, by rw [l2]; exact bk_keep hb j2⟩
          rw [l0] at h
          exact ⟨bk_keep hb (j1 h).1, (j1 h).2⟩
        case hq =>
          intro g u ⟨k1, k2, k3, k4, k5, k6⟩ hgc hbx hbX
          have C1 := bk2 k3
          have C3 := bk4 k2
          have CE1 := bk4 k4
          have CE2 := bk4 k5
          simp only [mixL, yieldsC, List.contains_cons, List.contains_nil, Nat.reduceAdd, Nat.reduceBEq, Nat.reduceEqDiff, Nat.zero_add, Bool.or_false, Bool.or_true, Bool.false_or, Bool.true_or, Bool.false_eq_true, if_true, if_false, Bool.or_self]
          repeat (go_big_quiet_step ((go_at_call 71; exact Grew.call_same (unless_any _ _ _))))
          exact wpQuiet_nil rfl
        case hind => intro j hj; simp only [List.mem_cons, List.not_mem_nil, or_false] at hj; rcases hj with rfl | rfl | rfl <;> (intro g h; kernel_rfl)
        case hsp =>
          intro j hj op ho L g x ⟨j1, j2⟩ hC hb0 hL haft
          simp only [List.mem_cons, List.not_mem_nil, or_false] at hj
          have hCs : ∀ x', Below x.heap.size x x' → Below w.heap.size w x' ∧ x'.heap[X]? = some (.cells #[.int .i64 l0, .int .i64 l1, .slice (some ⟨bb, o, none⟩) n c, .slice A2 ms.length c2] 131 (0, 0)) ∧ x'.heap[w.heap.size + 1]? = some (.cells #[.int .i64 (a : Int), .int .i64 (b : Int)] 42 (0, 0)) ∧ x'.heap[B1]? = some (.cells #[.string xc, .int .i64 xd, .int .i64 xl, .int .i64 xh] 73 (0, 0)) ∧ x'.heap[B2]? = some (.cells #[.string yc, .int .i64 yd, .int .i64 yl, .int .i64 yh] 73 (0, 0)) ∧ w.heap.size + 1 + 1 < x'.heap.size := fun x' hb => by
            obtain ⟨h1, h2, h3, h4, h5, h6⟩ := hC
            exact ⟨via h1 hb, bk_keep hb h2, bk_keep hb h3, bk_keep hb h4, bk_keep hb h5, Nat.lt_of_lt_of_le h6 hb.size⟩
          rcases hj with rfl | rfl | rfl
          · simp only [List.getElem?_cons_succ, List.getElem?_cons_zero, Option.some.injEq] at ho
            subst ho
            refine does_value (v := .slice (some ⟨x.heap.size, 0, none⟩) 2 2) (x := x.alloc (.cells #[.int .i64 (unl true 13), .int .i64 (unl true 9)] 25)) (by kernel_rfl) ⟨hCs _ (new_below _ _), .inr ⟨{ Gh.zero with b := x.heap.size }, rfl, fun _ => ?_, ?_⟩⟩
            · rw [upd_self]
              exact ⟨bk_new _ _ rfl, hC.2.2.2.2.2⟩
            · rw [setL_ne (by decide)]
              exact bk_alloc j2 _
          · simp only [List.getElem?_cons_succ, List.getElem?_cons_zero, Option.some.injEq] at ho
            subst ho
            have l20 : L 20 = true := haft ⟨20, .data⟩ (by simp) rfl
            obtain ⟨p1, p2⟩ := j1 l20
            have Cp := bk2 p1
            refine does_enter (f := 70) (args := #[.slice (some ⟨(g 20).b, 0, none⟩) 2 2]) (x := x) (by kernel_rfl) ((first_any [unl true 13, unl true 9] (g 20).b x (by simp) (fun k hk => by match k, hk with | 0, _ => exact Cp.1 | 1, _ => exact Cp.2.1)).mono ?_)
            rintro e x' ⟨rfl, rfl⟩
            refine ⟨_, rfl, hC, .inr ⟨Gh.zero, rfl, fun _ => ?_, ?_⟩⟩
            · rw [upd_ne (by decide)]
              exact ⟨p1, p2⟩
            · rw [setL_ne (by decide)]
              exact j2
          · simp only [List.getElem?_cons_succ, List.getElem?_cons_zero, Option.some.injEq] at ho
            subst ho
            rw [if_neg (by rw [hL]; decide)] at j2
            obtain ⟨h1, h2, h3, h4, h5, h6⟩ := hC
            refine does_skip (run_store4 (v0 := .int .i64 l0) (v1 := .int .i64 l1) (v2 := .slice (some ⟨bb, o, none⟩) n c) (v3 := .slice A2 ms.length c2) rfl rfl rfl rfl rfl (by kernel_rfl) (by kernel_rfl) (by kernel_rfl) j2) ⟨⟨by go_grown, ?_, ?_, ?_, ?_, by simpa using h6⟩, .inl ⟨rfl, fun h => ?_, ?_⟩⟩
            · exact bk_set (bk_set (bk_set (bk_set h2 (by dsimp only; omega) _) (by dsimp only; omega) _) (by dsimp only; omega) _) (by dsimp only; omega) _
            · exact bk_set (bk_set (bk_set (bk_set h3 (by dsimp only; omega) _) (by dsimp only; omega) _) (by dsimp only; omega) _) (by dsimp only; omega) _
            · exact bk_set (bk_set (bk_set (bk_set h4 (by dsimp only; omega) _) (by dsimp only; omega) _) (by dsimp only; omega) _) (by dsimp only; omega) _
            · exact bk_set (bk_set (bk_set (bk_set h5 (by dsimp only; omega) _) (by dsimp only; omega) _) (by dsimp only; omega) _) (by dsimp only; omega) _
            · rw [setL_ne (by decide)] at h
              exact ⟨bk_set (bk_set (bk_set (bk_set (j1 h).1 (by have := (j1 h).2; dsimp only; omega) _) (by have := (j1 h).2; dsimp only; omega) _) (by have := (j1 h).2; dsimp only; omega) _) (by have := (j1 h).2; dsimp only; omega) _, (j1 h).2⟩
            · rw [setL_self]
              exact bk_here (bk_here (bk_here (bk_here j2 _ rfl) _ rfl) _ rfl) _ rfl
        case hend =>
          intro g x ⟨j1, j2⟩ hC hb0
          rw [if_pos rfl] at j2
          have C2 := bk4 j2
          have hsx := hC.2.2.2.2.2
          clear hC j1
          go_wp2
          refine bodyPost_ret (v := .tuple #[.agg #[.int .i64 l0, .int .i64 l1, .slice (some ⟨bb, o, none⟩) n c, .slice A2 ms.length c2], .int .i64 (firstE [unl true 13, unl true 9])]) ?_ rfl ⟨?_, hb0⟩
          · simp [results, Try.results103, go_sem, C2]
          · first | (rw [hval.out]; done) | rfl | (simp; done) | (simp; omega)
    · have d3 : decide (xd ≤ yd) = false := decide_eq_false h2
      cases q
      · have hval : Hid (firstE [unl false 13, unl false 9] = if false = true then if (a : Int) < (b : Int) ∧ xd ≤ yd then 0 else 9 else 13) := by
          unfold Hid
          simp [firstE, unl] <;> omega
        go_wp2_with fail
        apply region_mixC w (fun x => Below w.heap.size w x ∧ x.heap[X]? = some (.cells #[.int .i64 l0, .int .i64 l1, .slice (some ⟨bb, o, none⟩) n c, .slice A2 ms.length c2] 131 (0, 0)) ∧ x.heap[w.heap.size + 1]? = some (.cells #[.int .i64 (a : Int), .int .i64 (b : Int)] 42 (0, 0)) ∧ x.heap[B1]? = some (.cells #[.string xc, .int .i64 xd, .int .i64 xl, .int .i64 xh] 73 (0, 0)) ∧ x.heap[B2]? = some (.cells #[.string yc, .int .i64 yd, .int .i64 yl, .int .i64 yh] 73 (0, 0)) ∧ w.heap.size + 1 + 1 < x.heap.size)
          [20, 21, 22] (fun j h => if j = 20 then .slice (some ⟨h.b, 0, none⟩) 2 2 else .int .i64 (firstE [unl false 13, unl false 9]))
          (fun L g x => (L 20 = true → x.heap[(g 20).b]? = some (.cells #[.int .i64 (unl false 13), .int .i64 (unl false 9)] 25 (0, 0)) ∧ w.heap.size + 1 + 1 < (g 20).b) ∧ x.heap[w.heap.size + 1 + 1]? = some (if L 22 = true then .cells #[.int .i64 l0, .int .i64 l1, .slice (some ⟨bb, o, none⟩) n c, .slice A2 ms.length c2] 131 (0, 0) else .cells #[.int .i64 0, .int .i64 0, .slice none 0 0, .slice none 0 0] 131 (0, 0)))
        case hm => kernel_rfl
        case hB => kernel_rfl
        case hB' => intro g; kernel_rfl
        case hS => kernel_rfl
        case hN => kernel_rfl
        case hC0 => exact ⟨hbw, K3, K1, E1, E2, bk_size N2⟩
        case hCs => exact fun x x' ⟨h1, h2, h3, h4, h5, h6⟩ hb => ⟨via h1 hb, bk_keep hb h2, bk_keep hb h3, bk_keep hb h4, bk_keep hb h5, Nat.lt_of_lt_of_le h6 hb.size⟩
        case hCw => exact fun x h => h.1
        case h0 =>
          intro L hL
          have l0 := hL 20 (by simp)
          have l2 := hL 22 (by simp)
          exact ⟨fun h => (by rw [l0] at h; cases h), by rw [l2]; exact N2⟩
        case hst =>
          intro L L' g x x' hL ⟨j1, j2⟩ hb
          have l0 := hL 20 (by simp)
          have l2 := hL 22 (by simp)
          refine ⟨fun h => ?_, by rw [l2]; exact bk_keep hb j2⟩
          rw [l0] at h
          exact ⟨bk_keep hb (j1 h).1, (j1 h).2⟩
        case hq =>
          intro g u ⟨k1, k2, k3, k4, k5, k6⟩ hgc hbx hbX
          have C1 := bk2 k3
          have C3 := bk4 k2
          have CE1 := bk4 k4
          have CE2 := bk4 k5
          simp only [mixL, yieldsC, List.contains_cons, List.contains_nil, Nat.reduceAdd, Nat.reduceBEq, Nat.reduceEqDiff, Nat.zero_add, Bool.or_false, Bool.or_true, Bool.false_or, Bool.true_or, Bool.false_eq_true, if_true, if_false, Bool.or_self]
          repeat (go_big_quiet_step ((go_at_call 71; exact Grew.call_same (unless_any _ _ _))))
          exact wpQuiet_nil rfl
        case hind => intro j hj; simp only [List.mem_cons, List.not_mem_nil, or_false] at hj; rcases hj with rfl | rfl | rfl <;> (intro g h; kernel_rfl)
        case hsp =>
          intro j hj op ho L g x ⟨j1, j2⟩ hC hb0 hL haft
          simp only [List.mem_cons, List.not_mem_nil, or_false] at hj
          have hCs : ∀ x', Below x.heap.size x x' → Below w.heap.size w x' ∧ x'.heap[X]? = some (.cells #[.int .i64 l0, .int .i64 l1, .slice (some ⟨bb, o, none⟩) n c, .slice A2 ms.length c2] 131 (0, 0)) ∧ x'.heap[w.heap.size + 1]? = some (.cells #[.int .i64 (a : Int), .int .i64 (b : Int)] 42 (0, 0)) ∧ x'.heap[B1]? = some (.cells #[.string xc, .int .i64 xd, .int .i64 xl, .int .i64 xh] 73 (0, 0)) ∧ x'.heap[B2]? = some (.cells #[.string yc, .int .i64 yd, .int .i64 yl, .int .i64 yh] 73 (0, 0)) ∧ w.heap.size + 1 + 1 < x'.heap.size := fun x' hb => by
            obtain ⟨h1, h2, h3, h4, h5, h6⟩ := hC
            exact ⟨via h1 hb, bk_keep hb h2, bk_keep hb h3, bk_keep hb h4, bk_keep hb h5, Nat.lt_of_lt_of_le h6 hb.size⟩
          rcases hj with rfl | rfl | rfl
          · simp only [List.getElem?_cons_succ, List.getElem?_cons_zero, Option.some.injEq] at ho
            subst ho
            refine does_value (v := .slice (some ⟨x.heap.size, 0, none⟩) 2 2) (x := x.alloc (.cells #[.int .i64 (unl false 13), .int .i64 (unl false 9)] 25)) (by kernel_rfl) ⟨hCs _ (new_below _ _), .inr ⟨{ Gh.zero with b := x.heap.size }, rfl, fun _ => ?_, ?_⟩⟩
            · rw [upd_self]
              exact ⟨bk_new _ _ rfl, hC.2.2.2.2.2⟩
            · rw [setL_ne (by decide)]
              exact bk_alloc j2 _
          · simp only [List.getElem?_cons_succ, List.getElem?_cons_zero, Option.some.injEq] at ho
            subst ho
            have l20 : L 20 = true := haft ⟨20, .data⟩ (by simp) rfl
            obtain ⟨p1, p2⟩ := j1 l20
            have Cp := bk2 p1
            refine does_enter (f := 70) (args := #[.slice (some ⟨(g 20).b, 0, none⟩) 2 2]) (x := x) (by kernel_rfl) ((first_any [unl false 13, unl false 9] (g 20).b x (by simp) (fun k hk => by match k, hk with | 0, _ => exact Cp.1 | 1, _ => exact Cp.2.1)).mono ?_)
            rintro e x' ⟨rfl, rfl⟩
            refine ⟨_, rfl, hC, .inr ⟨Gh.zero, rfl, fun _ => ?_, ?_⟩⟩
            · rw [upd_ne (by decide)]
              exact ⟨p1, p2⟩
            · rw [setL_ne (by decide)]
              exact j2
          · simp only [List.getElem?_cons_succ, List.getElem?_cons_zero, Option.some.injEq] at ho
            subst ho
            rw [if_neg (by rw [hL]; decide)] at j2
            obtain ⟨h1, h2, h3, h4, h5, h6⟩ := hC
            refine does_skip (run_store4 (v0 := .int .i64 l0) (v1 := .int .i64 l1) (v2 := .slice (some ⟨bb, o, none⟩) n c) (v3 := .slice A2 ms.length c2) rfl rfl rfl rfl rfl (by kernel_rfl) (by kernel_rfl) (by kernel_rfl) j2) ⟨⟨by go_grown, ?_, ?_, ?_, ?_, by simpa using h6⟩, .inl ⟨rfl, fun h => ?_, ?_⟩⟩
            · exact bk_set (bk_set (bk_set (bk_set h2 (by dsimp only; omega) _) (by dsimp only; omega) _) (by dsimp only; omega) _) (by dsimp only; omega) _
            · exact bk_set (bk_set (bk_set (bk_set h3 (by dsimp only; omega) _) (by dsimp only; omega) _) (by dsimp only; omega) _) (by dsimp only; omega) _
            · exact bk_set (bk_set (bk_set (bk_set h4 (by dsimp only; omega) _) (by dsimp only; omega) _) (by dsimp only; omega) _) (by dsimp only; omega) _
            · exact bk_set (bk_set (bk_set (bk_set h5 (by dsimp only; omega) _) (by dsimp only; omega) _) (by dsimp only; omega) _) (by dsimp only; omega) _
            · rw [setL_ne (by decide)] at h
              exact ⟨bk_set (bk_set (bk_set (bk_set (j1 h).1 (by have := (j1 h).2; dsimp only; omega) _) (by have := (j1 h).2; dsimp only; omega) _) (by have := (j1 h).2; dsimp only; omega) _) (by have := (j1 h).2; dsimp only; omega) _, (j1 h).2⟩
            · rw [setL_self]
              exact bk_here (bk_here (bk_here (bk_here j2 _ rfl) _ rfl) _ rfl) _ rfl
        case hend =>
          intro g x ⟨j1, j2⟩ hC hb0
          rw [if_pos rfl] at j2
          have C2 := bk4 j2
          have hsx := hC.2.2.2.2.2
          clear hC j1
          go_wp2
          refine bodyPost_ret (v := .tuple #[.agg #[.int .i64 l0, .int .i64 l1, .slice (some ⟨bb, o, none⟩) n c, .slice A2 ms.length c2], .int .i64 (firstE [unl false 13, unl false 9])]) ?_ rfl ⟨?_, hb0⟩
          · simp [results, Try.results103, go_sem, C2]
          · first | (rw [hval.out]; done) | rfl | (simp; done) | (simp; omega)
      · have hval : Hid (firstE [unl true 13, unl false 9] = if true = true then if (a : Int) < (b : Int) ∧ xd ≤ yd then 0 else 9 else 13) := by
          unfold Hid
          simp [firstE, unl] <;> omega
        go_wp2_with fail
        apply region_mixC w (fun x => Below w.heap.size w x ∧ x.heap[X]? = some (.cells #[.int .i64 l0, .int .i64 l1, .slice (some ⟨bb, o, none⟩) n c, .slice A2 ms.length c2] 131 (0, 0)) ∧ x.heap[w.heap.size + 1]? = some (.cells #[.int .i64 (a : Int), .int .i64 (b : Int)] 42 (0, 0)) ∧ x.heap[B1]? = some (.cells #[.string xc, .int .i64 xd, .int .i64 xl, .int .i64 xh] 73 (0, 0)) ∧ x.heap[B2]? = some (.cells #[.string yc, .int .i64 yd, .int .i64 yl, .int .i64 yh] 73 (0, 0)) ∧ w.heap.size + 1 + 1 < x.heap.size)
          [20, 21, 22] (fun j h => if j = 20 then .slice (some ⟨h.b, 0, none⟩) 2 2 else .int .i64 (firstE [unl true 13, unl false 9]))
          (fun L g x => (L 20 = true → x.heap[(g 20).b]? = some (.cells #[.int .i64 (unl true 13), .int .i64 (unl false 9)] 25 (0, 0)) ∧ w.heap.size + 1 + 1 < (g 20).b) ∧ x.heap[w.heap.size + 1 + 1]? = some (if L 22 = true then .cells #[.int .i64 l0, .int .i64 l1, .slice (some ⟨bb, o, none⟩) n c, .slice A2 ms.length c2] 131 (0, 0) else .cells #[.int .i64 0, .int .i64 0, .slice none 0 0, .slice none 0 0] 131 (0, 0)))
        case hm => kernel_rfl
        case hB => kernel_rfl
        case hB' => intro g; kernel_rfl
        case hS => kernel_rfl
        case hN => kernel_rfl
        case hC0 => exact ⟨hbw, K3, K1, E1, E2, bk_size N2⟩
        case hCs => exact fun x x' ⟨h1, h2, h3, h4, h5, h6⟩ hb => ⟨via h1 hb, bk_keep hb h2, bk_keep hb h3, bk_keep hb h4, bk_keep hb h5, Nat.lt_of_lt_of_le h6 hb.size⟩
        case hCw => exact fun x h => h.1
        case h0 =>
          intro L hL
          have l0 := hL 20 (by simp)
          have l2 := hL 22 (by simp)
          exact ⟨fun h => (by rw [l0] at h; cases h), by rw [l2]; exact N2⟩
        case hst =>
          intro L L' g x x' hL ⟨j1, j2⟩ hb
          have l0 := hL 20 (by simp)
          have l2 := hL 22 (by simp)
          refine ⟨fun h => ?_, by rw [l2]; exact bk_keep hb j2⟩
          rw [l0] at h
          exact ⟨bk_keep hb (j1 h).1, (j1 h).2⟩
        case hq =>
          intro g u ⟨k1, k2, k3, k4, k5, k6⟩ hgc hbx hbX
          have C1 := bk2 k3
          have C3 := bk4 k2
          have CE1 := bk4 k4
          have CE2 := bk4 k5
          simp only [mixL, yieldsC, List.contains_cons, List.contains_nil, Nat.reduceAdd, Nat.reduceBEq, Nat.reduceEqDiff, Nat.zero_add, Bool.or_false, Bool.or_true, Bool.false_or, Bool.true_or, Bool.false_eq_true, if_true, if_false, Bool.or_self]
          repeat (go_big_quiet_step ((go_at_call 71; exact Grew.call_same (unless_any _ _ _))))
          exact wpQuiet_nil rfl
        case hind => intro j hj; simp only [List.mem_cons, List.not_mem_nil, or_false] at hj; rcases hj with rfl | rfl | rfl <;> (intro g h; kernel_rfl)
        case hsp =>
          intro j hj op ho L g x ⟨j1, j2⟩ hC hb0 hL haft
          simp only [List.mem_cons, List.not_mem_nil, or_false] at hj
          have hCs : ∀ x', Below x.heap.size x x' → Below w.heap.size w x' ∧ x'.heap[X]? = some (.cells #[.int .i64 l0, .int .i64 l1, .slice (some ⟨bb, o, none⟩) n c, .slice A2 ms.length c2] 131 (0, 0)) ∧ x'.heap[w.heap.size + 1]? = some (.cells #[.int .i64 (a : Int), .int .i64 (b : Int)] 42 (0, 0)) ∧ x'.heap[B1]? = some (.cells #[.string xc, .int .i64 xd, .int .i64 xl, .int .i64 xh] 73 (0, 0)) ∧ x'.heap[B2]? = some (.cells #[.string yc, .int .i64 yd, .int .i64 yl, .int .i64 yh] 73 (0, 0)) ∧ w.heap.size + 1 + 1 < x'.heap.size := fun x' hb => by
            obtain ⟨h1, h2, h3, h4, h5, h6⟩ := hC
            exact ⟨via h1 hb, bk_keep hb h2, bk_keep hb h3, bk_keep hb h4, bk_keep hb h5, Nat.lt_of_lt_of_le h6 hb.size⟩
          rcases hj with rfl | rfl | rfl
          · simp only [List.getElem?_cons_succ, List.getElem?_cons_zero, Option.some.injEq] at ho
            subst ho
            refine does_value (v := .slice (some ⟨x.heap.size, 0, none⟩) 2 2) (x := x.alloc (.cells #[.int .i64 (unl true 13), .int .i64 (unl false 9)] 25)) (by kernel_rfl) ⟨hCs _ (new_below _ _), .inr ⟨{ Gh.zero with b := x.heap.size }, rfl, fun _ => ?_, ?_⟩⟩
            · rw [upd_self]
              exact ⟨bk_new _ _ rfl, hC.2.2.2.2.2⟩
            · rw [setL_ne (by decide)]
              exact bk_alloc j2 _
          · simp only [List.getElem?_cons_succ, List.getElem?_cons_zero, Option.some.injEq] at ho
            subst ho
            have l20 : L 20 = true := haft ⟨20, .data⟩ (by simp) rfl
            obtain ⟨p1, p2⟩ := j1 l20
            have Cp := bk2 p1
            refine does_enter (f := 70) (args := #[.slice (some ⟨(g 20).b, 0, none⟩) 2 2]) (x := x) (by kernel_rfl) ((first_any [unl true 13, unl false 9] (g 20).b x (by simp) (fun k hk => by match k, hk with | 0, _ => exact Cp.1 | 1, _ => exact Cp.2.1)).mono ?_)
            rintro e x' ⟨rfl, rfl⟩
            refine ⟨_, rfl, hC, .inr ⟨Gh.zero, rfl, fun _ => ?_, ?_⟩⟩
            · rw [upd_ne (by decide)]
              exact ⟨p1, p2⟩
            · rw [setL_ne (by decide)]
              exact j2
          · simp only [List.getElem?_cons_succ, List.getElem?_cons_zero, Option.some.injEq] at ho
            subst ho
            rw [if_neg (by rw [hL]; decide)] at j2
            obtain ⟨h1, h2, h3, h4, h5, h6⟩ := hC
            refine does_skip (run_store4 (v0 := .int .i64 l0) (v1 := .int .i64 l1) (v2 := .slice (some ⟨bb, o, none⟩) n c) (v3 := .slice A2 ms.length c2) rfl rfl rfl rfl rfl (by kernel_rfl) (by kernel_rfl) (by kernel_rfl) j2) ⟨⟨by go_grown, ?_, ?_, ?_, ?_, by simpa using h6⟩, .inl ⟨rfl, fun h => ?_, ?_⟩⟩
            · exact bk_set (bk_set (bk_set (bk_set h2 (by dsimp only; omega) _) (by dsimp only; omega) _) (by dsimp only; omega) _) (by dsimp only; omega) _
            · exact bk_set (bk_set (bk_set (bk_set h3 (by dsimp only; omega) _) (by dsimp only; omega) _) (by dsimp only; omega) _) (by dsimp only; omega) _
            · exact bk_set (bk_set (bk_set (bk_set h4 (by dsimp only; omega) _) (by dsimp only; omega) _) (by dsimp only; omega) _) (by dsimp only; omega) _
            · exact bk_set (bk_set (bk_set (bk_set h5 (by dsimp only; omega) _) (by dsimp only; omega) _) (by dsimp only; omega) _) (by dsimp only; omega) _
            · rw [setL_ne (by decide)] at h
              exact ⟨bk_set (bk_set (bk_set (bk_set (j1 h).1 (by have := (j1 h).2; dsimp only; omega) _) (by have := (j1 h).2; dsimp only; omega) _) (by have := (j1 h).2; dsimp only; omega) _) (by have := (j1 h).2; dsimp only; omega) _, (j1 h).2⟩
            · rw [setL_self]
              exact bk_here (bk_here (bk_here (bk_here j2 _ rfl) _ rfl) _ rfl) _ rfl
        case hend =>
          intro g x ⟨j1, j2⟩ hC hb0
          rw [if_pos rfl] at j2
          have C2 := bk4 j2
          have hsx := hC.2.2.2.2.2
          clear hC j1
          go_wp2
          refine bodyPost_ret (v := .tuple #[.agg #[.int .i64 l0, .int .i64 l1, .slice (some ⟨bb, o, none⟩) n c, .slice A2 ms.length c2], .int .i64 (firstE [unl true 13, unl false 9])]) ?_ rfl ⟨?_, hb0⟩
          · simp [results, Try.results103, go_sem, C2]
          · first | (rw [hval.out]; done) | rfl | (simp; done) | (simp; omega)
  · have i1 : ¬ (a : Int) < (b : Int) := by omega
    have d1 : decide (a < b) = false := decide_eq_false h1
    have d2 : decide ((a : Int) < (b : Int)) = false := decide_eq_false i1
    cases q
    · have hval : Hid (firstE [unl false 13, unl false 9] = if false = true then if (a : Int) < (b : Int) ∧ xd ≤ yd then 0 else 9 else 13) := by
        unfold Hid
        simp [firstE, unl] <;> omega
      go_wp2_with fail
      apply region_mixC w (fun x => Below w.heap.size w x ∧ x.heap[X]? = some (.cells #[.int .i64 l0, .int .i64 l1, .slice (some ⟨bb, o, none⟩) n c, .slice A2 ms.length c2] 131 (0, 0)) ∧ x.heap[w.heap.size + 1]? = some (.cells #[.int .i64 (a : Int), .int .i64 (b : Int)] 42 (0, 0)) ∧ x.heap[B1]? = some (.cells #[.string xc, .int .i64 xd, .int .i64 xl, .int .i64 xh] 73 (0, 0)) ∧ x.heap[B2]? = some (.cells #[.string yc, .int .i64 yd, .int .i64 yl, .int .i64 yh] 73 (0, 0)) ∧ w.heap.size + 1 + 1 < x.heap.size)
        [20, 21, 22] (fun j h => if j = 20 then .slice (some ⟨h.b, 0, none⟩) 2 2 else .int .i64 (firstE [unl false 13, unl false 9]))
        (fun L g x => (L 20 = true → x.heap[(g 20).b]? = some (.cells #[.int .i64 (unl false 13), .int .i64 (unl false 9)] 25 (0, 0)) ∧ w.heap.size + 1 + 1 < (g 20).b) ∧ x.heap[w.heap.size + 1 + 1]? = some (if L 22 = true then .cells #[.int .i64 l0, .int .i64 l1, .slice (some ⟨bb, o, none⟩) n c, .slice A2 ms.length c2] 131 (0, 0) else .cells #[.int .i64 0, .int .i64 0, .slice none 0 0, .slice none 0 0] 131 (0, 0)))
      case hm => kernel_rfl
      case hB => kernel_rfl
      case hB' => intro g; kernel_rfl
      case hS => kernel_rfl
      case hN => kernel_rfl
      case hC0 => exact ⟨hbw, K3, K1, E1, E2, bk_size N2⟩
      case hCs => exact fun x x' ⟨h1, h2, h3, h4, h5, h6⟩ hb => ⟨via h1 hb, bk_keep hb h2, bk_keep hb h3, bk_keep hb h4, bk_keep hb h5, Nat.lt_of_lt_of_le h6 hb.size⟩
      case hCw => exact fun x h => h.1
      case h0 =>
        intro L hL
        have l0 := hL 20 (by simp)
        have l2 := hL 22 (by simp)
        exact ⟨fun h => (by rw [l0] at h; cases h), by rw [l2]; exact N2⟩
      case hst =>
        intro L L' g x x' hL ⟨j1, j2⟩ hb
        have l0 := hL 20 (by simp)
        have l2 := hL 22 (by simp)
        refine ⟨fun h => ?_, by rw [l2]; exact bk_keep hb j2⟩
        rw [l0] at h
        exact ⟨bk_keep hb (j1 h).1, (j1 h).2⟩
      case hq =>
        intro g u ⟨k1, k2, k3, k4, k5, k6⟩ hgc hbx hbX
        have C1 := bk2 k3
        have C3 := bk4 k2
        have CE1 := bk4 k4
        have CE2 := bk4 k5
        simp only [mixL, yieldsC, List.contains_cons, List.contains_nil, Nat.reduceAdd, Nat.reduceBEq, Nat.reduceEqDiff, Nat.zero_add, Bool.or_false, Bool.or_true, Bool.false_or, Bool.true_or, Bool.false_eq_true, if_true, if_false, Bool.or_self]
        repeat (go_big_quiet_step ((go_at_call 71; exact Grew.call_same (unless_any _ _ _))))
        exact wpQuiet_nil rfl
      case hind => intro j hj; simp only [List.mem_cons, List.not_mem_nil, or_false] at hj; rcases hj with rfl | rfl | rfl <;> (intro g h; kernel_rfl)
      case hsp =>
        intro j hj op ho L g x ⟨j1, j2⟩ hC hb0 hL haft
        simp only [List.mem_cons, List.not_mem_nil, or_false] at hj
        have hCs : ∀ x', Below x.heap.size x x' → Below w.heap.size w x' ∧ x'.heap[X]? = some (.cells #[.int .i64 l0, .int .i64 l1, .slice (some ⟨bb, o, none⟩) n c, .slice A2 ms.length c2] 131 (0, 0)) ∧ x'.heap[w.heap.size + 1]? = some (.cells #[.int .i64 (a : Int), .int .i64 (b : Int)] 42 (0, 0)) ∧ x'.heap[B1]? = some (.cells #[.string xc, .int .i64 xd, .int .i64 xl, .int .i64 xh] 73 (0, 0)) ∧ x'.heap[B2]? = some (.cells #[.string yc, .int .i64 yd, .int .i64 yl, .int .i64 yh] 73 (0, 0)) ∧ w.heap.size + 1 + 1 < x'.heap.size := fun x' hb => by
          obtain ⟨h1, h2, h3, h4, h5, h6⟩ := hC
          exact ⟨via h1 hb, bk_keep hb h2, bk_keep hb h3, bk_keep hb h4, bk_keep hb h5, Nat.lt_of_lt_of_le h6 hb.size⟩
        rcases hj with rfl | rfl | rfl
        · simp only [List.getElem?_cons_succ, List.getElem?_cons_zero, Option.some.injEq] at ho
          subst ho
          refine does_value (v := .slice (some ⟨x.heap.size, 0, none⟩) 2 2) (x := x.alloc (.cells #[.int .i64 (unl false 13), .int .i64 (unl false 9)] 25)) (by kernel_rfl) ⟨hCs _ (new_below _ _), .inr ⟨{ Gh.zero with b := x.heap.size }, rfl, fun _ => ?_, ?_⟩⟩
          · rw [upd_self]
            exact ⟨bk_new _ _ rfl, hC.2.2.2.2.2⟩
          · rw [setL_ne (by decide)]
            exact bk_alloc j2 _
        · simp only [List.getElem?_cons_succ, List.getElem?_cons_zero, Option.some.injEq] at ho
          subst ho
          have l20 : L 20 = true := haft ⟨20, .data⟩ (by simp) rfl
          obtain ⟨p1, p2⟩ := j1 l20
          have Cp := bk2 p1
          refine does_enter (f := 70) (args := #[.slice (some ⟨(g 20).b, 0, none⟩) 2 2]) (x := x) (by kernel_rfl) ((first_any [unl false 13, unl false 9] (g 20).b x (by simp) (fun k hk => by match k, hk with | 0, _ => exact Cp.1 | 1, _ => exact Cp.2.1)).mono ?_)
          rintro e x' ⟨rfl, rfl⟩
          refine ⟨_, rfl, hC, .inr ⟨Gh.zero, rfl, fun _ => ?_, ?_⟩⟩
          · rw [upd_ne (by decide)]
            exact ⟨p1, p2⟩
          · rw [setL_ne (by decide)]
            exact j2
        · simp only [List.getElem?_cons_succ, List.getElem?_cons_zero, Option.some.injEq] at ho
          subst ho
          rw [if_neg (by rw [hL]; decide)] at j2
          obtain ⟨h1, h2, h3, h4, h5, h6⟩ := hC
          refine does_skip (run_store4 (v0 := .int .i64 l0) (v1 := .int .i64 l1) (v2 := .slice (some ⟨bb, o, none⟩) n c) (v3 := .slice A2 ms.length c2) rfl rfl rfl rfl rfl (by kernel_rfl) (by kernel_rfl) (by kernel_rfl) j2) ⟨⟨by go_grown, ?_, ?_, ?_, ?_, by simpa using h6⟩, .inl ⟨rfl, fun h => ?_, ?_⟩⟩
          · exact bk_set (bk_set (bk_set (bk_set h2 (by dsimp only; omega) _) (by dsimp only; omega) _) (by dsimp only; omega) _) (by dsimp only; omega) _
          · exact bk_set (bk_set (bk_set (bk_set h3 (by dsimp only; omega) _) (by dsimp only; omega) _) (by dsimp only; omega) _) (by dsimp only; omega) _
          · exact bk_set (bk_set (bk_set (bk_set h4 (by dsimp only; omega) _) (by dsimp only; omega) _) (by dsimp only; omega) _) (by dsimp only; omega) _
          · exact bk_set (bk_set (bk_set (bk_set h5 (by dsimp only; omega) _) (by dsimp only; omega) _) (by dsimp only; omega) _) (by dsimp only; omega) _
          · rw [setL_ne (by decide)] at h
            exact ⟨bk_set (bk_set (bk_set (bk_set (j1 h).1 (by have := (j1 h).2; dsimp only; omega) _) (by have := (j1 h).2; dsimp only; omega) _) (by have := (j1 h).2; dsimp only; omega) _) (by have := (j1 h).2; dsimp only; omega) _, (j1 h).2⟩
          · rw [setL_self]
            exact bk_here (bk_here (bk_here (bk_here j2 _ rfl) _ rfl) _ rfl) _ rfl
      case hend =>
        intro g x ⟨j1, j2⟩ hC hb0
        rw [if_pos rfl] at j2
        have C2 := bk4 j2
        have hsx := hC.2.2.2.2.2
        clear hC j1
        go_wp2
        refine bodyPost_ret (v := .tuple #[.agg #[.int .i64 l0, .int .i64 l1, .slice (some ⟨bb, o, none⟩) n c, .slice A2 ms.length c2], .int .i64 (firstE [unl false 13, unl false 9])]) ?_ rfl ⟨?_, hb0⟩
        · simp [results, Try.results103, go_sem, C2]
        · first | (rw [hval.out]; done) | rfl | (simp; done) | (simp; omega)
    · have hval : Hid (firstE [unl true 13, unl false 9] = if true = true then if (a : Int) < (b : Int) ∧ xd ≤ yd then 0 else 9 else 13) := by
        unfold Hid
        simp [firstE, unl] <;> omega
      go_wp2_with fail
      apply region_mixC w (fun x => Below w.heap.size w x ∧ x.heap[X]? = some (.cells #[.int .i64 l0, .int .i64 l1, .slice (some ⟨bb, o, none⟩) n c, .slice A2 ms.length c2] 131 (0, 0)) ∧ x.heap[w.heap.size + 1]? = some (.cells #[.int .i64 (a : Int), .int .i64 (b : Int)] 42 (0, 0)) ∧ x.heap[B1]? = some (.cells #[.string xc, .int .i64 xd, .int .i64 xl, .int .i64 xh] 73 (0, 0)) ∧ x.heap[B2]? = some (.cells #[.string yc, .int .i64 yd, .int .i64 yl, .int .i64 yh] 73 (0, 0)) ∧ w.heap.size + 1 + 1 < x.heap.size)
        [20, 21, 22] (fun j h => if j = 20 then .slice (some ⟨h.b, 0, none⟩) 2 2 else .int .i64 (firstE [unl true 13, unl false 9]))
        (fun L g x => (L 20 = true → x.heap[(g 20).b]? = some (.cells #[.int .i64 (unl true 13), .int .i64 (unl false 9)] 25 (0, 0)) ∧ w.heap.size + 1 + 1 < (g 20).b) ∧ x.heap[w.heap.size + 1 + 1]? = some (if L 22 = true then .cells #[.int .i64 l0, .int .i64 l1, .slice (some ⟨bb, o, none⟩) n c, .slice A2 ms.length c2] 131 (0, 0) else .cells #[.int .i64 0, .int .i64 0, .slice none 0 0, .slice none 0 0] 131 (0, 0)))
      case hm => kernel_rfl
      case hB => kernel_rfl
      case hB' => intro g; kernel_rfl
      case hS => kernel_rfl
      case hN => kernel_rfl
      case hC0 => exact ⟨hbw, K3, K1, E1, E2, bk_size N2⟩
      case hCs => exact fun x x' ⟨h1, h2, h3, h4, h5, h6⟩ hb => ⟨via h1 hb, bk_keep hb h2, bk_keep hb h3, bk_keep hb h4, bk_keep hb h5, Nat.lt_of_lt_of_le h6 hb.size⟩
      case hCw => exact fun x h => h.1
      case h0 =>
        intro L hL
        have l0 := hL 20 (by simp)
        have l2 := hL 22 (by simp)
        exact ⟨fun h => (by rw [l0] at h; cases h), by rw [l2]; exact N2⟩
      case hst =>
        intro L L' g x x' hL ⟨j1, j2⟩ hb
        have l0 := hL 20 (by simp)
        have l2 := hL 22 (by simp)
        refine ⟨fun h => ?_, by rw [l2]; exact bk_keep hb j2⟩
        rw [l0] at h
        exact ⟨bk_keep hb (j1 h).1, (j1 h).2⟩
      case hq =>
        intro g u ⟨k1, k2, k3, k4, k5, k6⟩ hgc hbx hbX
        have C1 := bk2 k3
        have C3 := bk4 k2
        have CE1 := bk4 k4
        have CE2 := bk4 k5
        simp only [mixL, yieldsC, List.contains_cons, List.contains_nil, Nat.reduceAdd, Nat.reduceBEq, Nat.reduceEqDiff, Nat.zero_add, Bool.or_false, Bool.or_true, Bool.false_or, Bool.true_or, Bool.false_eq_true, if_true, if_false, Bool.or_self]
        repeat (go_big_quiet_step ((go_at_call 71; exact Grew.call_same (unless_any _ _ _))))
        exact wpQuiet_nil rfl
      case hind => intro j hj; simp only [List.mem_cons, List.not_mem_nil, or_false] at hj; rcases hj with rfl | rfl | rfl <;> (intro g h; kernel_rfl)
      case hsp =>
        intro j hj op ho L g x ⟨j1, j2⟩ hC hb0 hL haft
        simp only [List.mem_cons, List.not_mem_nil, or_false] at hj
        have hCs : ∀ x', Below x.heap.size x x' → Below w.heap.size w x' ∧ x'.heap[X]? = some (.cells #[.int .i64 l0, .int .i64 l1, .slice (some ⟨bb, o, none⟩) n c, .slice A2 ms.length c2] 131 (0, 0)) ∧ x'.heap[w.heap.size + 1]? = some (.cells #[.int .i64 (a : Int), .int .i64 (b : Int)] 42 (0, 0)) ∧ x'.heap[B1]? = some (.cells #[.string xc, .int .i64 xd, .int .i64 xl, .int .i64 xh] 73 (0, 0)) ∧ x'.heap[B2]? = some (.cells #[.string yc, .int .i64 yd, .int .i64 yl, .int .i64 yh] 73 (0, 0)) ∧ w.heap.size + 1 + 1 < x'.heap.size := fun x' hb => by
          obtain ⟨h1, h2, h3, h4, h5, h6⟩ := hC
          exact ⟨via h1 hb, bk_keep hb h2, bk_keep hb h3, bk_keep hb h4, bk_keep hb h5, Nat.lt_of_lt_of_le h6 hb.size⟩
        rcases hj with rfl | rfl | rfl
        · simp only [List.getElem?_cons_succ, List.getElem?_cons_zero, Option.some.injEq] at ho
          subst ho
          refine does_value (v := .slice (some ⟨x.heap.size, 0, none⟩) 2 2) (x := x.alloc (.cells #[.int .i64 (unl true 13), .int .i64 (unl false 9)] 25)) (by kernel_rfl) ⟨hCs _ (new_below _ _), .inr ⟨{ Gh.zero with b := x.heap.size }, rfl, fun _ => ?_, ?_⟩⟩
          · rw [upd_self]
            exact ⟨bk_new _ _ rfl, hC.2.2.2.2.2⟩
          · rw [setL_ne (by decide)]
            exact bk_alloc j2 _
        · simp only [List.getElem?_cons_succ, List.getElem?_cons_zero, Option.some.injEq] at ho
          subst ho
          have l20 : L 20 = true := haft ⟨20, .data⟩ (by simp) rfl
          obtain ⟨p1, p2⟩ := j1 l20
          have Cp := bk2 p1
          refine does_enter (f := 70) (args := #[.slice (some ⟨(g 20).b, 0, none⟩) 2 2]) (x := x) (by kernel_rfl) ((first_any [unl true 13, unl false 9] (g 20).b x (by simp) (fun k hk => by match k, hk with | 0, _ => exact Cp.1 | 1, _ => exact Cp.2.1)).mono ?_)
          rintro e x' ⟨rfl, rfl⟩
          refine ⟨_, rfl, hC, .inr ⟨Gh.zero, rfl, fun _ => ?_, ?_⟩⟩
          · rw [upd_ne (by decide)]
            exact ⟨p1, p2⟩
          · rw [setL_ne (by decide)]
            exact j2
        · simp only [List.getElem?_cons_succ, List.getElem?_cons_zero, Option.some.injEq] at ho
          subst ho
          rw [if_neg (by rw [hL]; decide)] at j2
          obtain ⟨h1, h2, h3, h4, h5, h6⟩ := hC
          refine does_skip (run_store4 (v0 := .int .i64 l0) (v1 := .int .i64 l1) (v2 := .slice (some ⟨bb, o, none⟩) n c) (v3 := .slice A2 ms.length c2) rfl rfl rfl rfl rfl (by kernel_rfl) (by kernel_rfl) (by kernel_rfl) j2) ⟨⟨by go_grown, ?_, ?_, ?_, ?_, by simpa using h6⟩, .inl ⟨rfl, fun h => ?_, ?_⟩⟩
          · exact bk_set (bk_set (bk_set (bk_set h2 (by dsimp only; omega) _) (by dsimp only; omega) _) (by dsimp only; omega) _) (by dsimp only; omega) _
          · exact bk_set (bk_set (bk_set (bk_set h3 (by dsimp only; omega) _) (by dsimp only; omega) _) (by dsimp only; omega) _) (by dsimp only; omega) _
          · exact bk_set (bk_set (bk_set (bk_set h4 (by dsimp only; omega) _) (by dsimp only; omega) _) (by dsimp only; omega) _) (by dsimp only; omega) _
          · exact bk_set (bk_set (bk_set (bk_set h5 (by dsimp only; omega) _) (by dsimp only; omega) _) (by dsimp only; omega) _) (by dsimp only; omega) _
          · rw [setL_ne (by decide)] at h
            exact ⟨bk_set (bk_set (bk_set (bk_set (j1 h).1 (by have := (j1 h).2; dsimp only; omega) _) (by have := (j1 h).2; dsimp only; omega) _) (by have := (j1 h).2; dsimp only; omega) _) (by have := (j1 h).2; dsimp only; omega) _, (j1 h).2⟩
          · rw [setL_self]
            exact bk_here (bk_here (bk_here (bk_here j2 _ rfl) _ rfl) _ rfl) _ rfl
      case hend =>
        intro g x ⟨j1, j2⟩ hC hb0
        rw [if_pos rfl] at j2
        have C2 := bk4 j2
        have hsx := hC.2.2.2.2.2
        clear hC j1
        go_wp2
        refine bodyPost_ret (v := .tuple #[.agg #[.int .i64 l0, .int .i64 l1, .slice (some ⟨bb, o, none⟩) n c, .slice A2 ms.length c2], .int .i64 (firstE [unl true 13, unl false 9])]) ?_ rfl ⟨?_, hb0⟩
        · simp [results, Try.results103, go_sem, C2]
        · first | (rw [hval.out]; done) | rfl | (simp; done) | (simp; omega)
end Go.Proofs

namespace Go.Proofs
open Go.RowKit

theorem firstE2_of {a b : Int} (h : firstE [a, b] = 0) : a = 0 ∧ b = 0 := firstE2_zero h
theorem pairE_zero {rs : List Rd} {i j : Int} (h : pairE rs i j = 0) : ∃ (a b : Nat) (x y : Rd), i = a ∧ j = b ∧ rs[a]? = some x ∧ rs[b]? = some y ∧ a < b ∧ eqS x.c y.c = true ∧ x.d ≤ y.d := by
  unfold pairE at h
  split at h
  · rename_i hw
    obtain ⟨i1, i2⟩ := within_true hw.1
    obtain ⟨j1, j2⟩ := within_true hw.2
    obtain ⟨a, rfl⟩ : ∃ a : Nat, i = a := ⟨i.toNat, by omega⟩
    obtain ⟨b, rfl⟩ : ∃ b : Nat, j = b := ⟨j.toNat, by omega⟩
    rw [Int.toNat_natCast, Int.toNat_natCast] at h
    have hx := List.getElem?_eq_getElem (l := rs) (i := a) (by omega)
    have hy := List.getElem?_eq_getElem (l := rs) (i := b) (by omega)
    rw [hx, hy] at h
    dsimp only at h
    split at h
    · split at h
      · rename_i h1 h2
        exact ⟨a, b, _, _, rfl, rfl, hx, hy, by omega, h1, h2.2⟩
      · cases h
    · cases h
  · cases h
def pairEE (l0 l1 : Int) (rs : List Rd) (ms : List Mv) (i j : Int) : Int := firstE [(checkB l0 l1 rs ms).2, pairE rs i j]
def contrasV (l0 l1 : Int) (rs : List Rd) (ms : List Mv) (i j : Int) : Bool := decide (pairEE l0 l1 rs ms i j = 0) && contraAt l0 l1 rs ms i.toNat j.toNat
set_option maxRecDepth 100000 in
set_option maxHeartbeats 2000000 in
theorem contradicts_any (l0 l1 : Int) (A A2 : Option Addr) (rs : List Rd) (ms : List Mv) (c c2 : Nat) (i j : Int) (w : World) (hnl : rs.length ≤ 4611686018427387904)
    (hs : ∀ x ∈ rs, x.c.size ≤ 9223372036854775807) (hat : At 4 Rd.cs w A rs)
    (hs2 : ∀ x ∈ ms, x.f.size ≤ 9223372036854775807 ∧ x.t.size ≤ 9223372036854775807) (hat2 : At 4 Mv.cs w A2 ms) :
    Calls Try.prog 48 #[.agg #[.int .i64 l0, .int .i64 l1, .slice A rs.length c, .slice A2 ms.length c2], .agg #[.int .i64 i, .int .i64 j]] w fun e w' =>
      e = .returned (.tuple #[.bool (contrasV l0 l1 rs ms i j), .int .i64 (pairEE l0 l1 rs ms i j)]) ∧ Below w.heap.size w w' := by
  have hO := Lib.hid fun W (hb : Below w.heap.size w W) => openPair_any l0 l1 A A2 rs ms c c2 i j W hnl hs (At.below hat hb) hs2 (At.below hat2 hb)
  unfold contrasV pairEE
  by_cases hz : firstE [(checkB l0 l1 rs ms).2, pairE rs i j] = 0
  · have hR := right_of (firstE2_zero hz).1
    obtain ⟨a, b, x, y, rfl, rfl, hx, hy, -⟩ := pairE_zero (firstE2_zero hz).2
    have hC := Lib.hid fun W (hb : Below w.heap.size w W) => contradict_any l0 l1 A A2 rs ms c c2 a b x y W hR hx hy (At.below hat hb) (At.below hat2 hb)
    have hcc : contra l0 l1 ms x y = contraAt l0 l1 rs ms a b := by unfold contraAt; rw [hx, hy]
    rw [hz] at hO ⊢
    rw [hcc] at hC
    rw [Int.toNat_natCast, Int.toNat_natCast]
    simp only [decide_true, Bool.true_and]
    generalize contraAt l0 l1 rs ms a b = C at *
    clear hs hs2 hat hat2 hz hR hx hy hcc
    go_enter Try.func48, Try.ntmps48
    go_wp2_with (first | (go_at_call 103; refine (hO.out _ ?_).mono ?_; (· go_grown); rintro e w1 ⟨rfl, hb⟩; have hbw := via (by go_grown : Below w.heap.size w _) hb; have hsw := hbw.size; have B0 : w1.heap[w.heap.size]? = some (.cells #[.int .i64 l0, .int .i64 l1, .slice A rs.length c, .slice A2 ms.length c2] 49 (0, 0)) := bk_keep hb (by (repeat (first | assumption | (refine bk_new _ _ ?_; (simp; done)) | refine bk_drew ?_ | refine bk_alloc ?_ _ | refine bk_set ?_ (by simp <;> omega) _))); have B1 : w1.heap[w.heap.size + 1]? = some (.cells #[.int .i64 (a : Int), .int .i64 (b : Int)] 42 (0, 0)) := bk_keep hb (by (repeat (first | assumption | (refine bk_new _ _ ?_; (simp; done)) | refine bk_drew ?_ | refine bk_alloc ?_ _ | refine bk_set ?_ (by simp <;> omega) _))); have C1 := bk2 B1) | (go_at_call 104; refine (hC.out _ ?_).mono ?_; (· go_grown); rintro e w2 ⟨rfl, hb⟩; have hbw := via (by go_grown : Below w.heap.size w _) hb; have hsw := hbw.size))
    refine bodyPost_ret (v := .tuple #[.bool C, .int .i64 0]) ?_ rfl ⟨rfl, by go_grown⟩
    simp [results, Try.results48, go_sem]
  · rw [decide_eq_false hz, Bool.false_and]
    have z2 : (firstE [(checkB l0 l1 rs ms).2, pairE rs i j] == 0) = false := by simpa using hz
    generalize firstE [(checkB l0 l1 rs ms).2, pairE rs i j] = E at *
    clear hs hs2 hat hat2
    go_enter Try.func48, Try.ntmps48
    go_wp2_with (first | (go_at_call 103; refine (hO.out _ ?_).mono ?_; (· go_grown); rintro e w1 ⟨rfl, hb⟩; have hbw := via (by go_grown : Below w.heap.size w _) hb; have hsw := hbw.size; have B0 : w1.heap[w.heap.size]? = some (.cells #[.int .i64 l0, .int .i64 l1, .slice A rs.length c, .slice A2 ms.length c2] 49 (0, 0)) := bk_keep hb (by (repeat (first | assumption | (refine bk_new _ _ ?_; (simp; done)) | refine bk_drew ?_ | refine bk_alloc ?_ _ | refine bk_set ?_ (by simp <;> omega) _))); have B1 : w1.heap[w.heap.size + 1]? = some (.cells #[.int .i64 i, .int .i64 j] 42 (0, 0)) := bk_keep hb (by (repeat (first | assumption | (refine bk_new _ _ ?_; (simp; done)) | refine bk_drew ?_ | refine bk_alloc ?_ _ | refine bk_set ?_ (by simp <;> omega) _))); have C1 := bk2 B1))
    refine bodyPost_ret (v := .tuple #[.bool false, .int .i64 E]) ?_ rfl ⟨rfl, by go_grown⟩
    simp [results, Try.results48, go_sem]

def rngV (l0 l1 : Int) (ms : List Mv) (x : Rd) (day : Int) : Int × Int := (allowsLo l0 l1 ms x day / 1000, -(-allowsHi l0 l1 ms x day / 1000))
def expEE (l0 l1 : Int) (rs : List Rd) (ms : List Mv) (i day : Int) : Int := firstE [(checkB l0 l1 rs ms).2, unl (within i 0 ((rs.length : Int) - 1)) 6, unl (within day 0 100000) 2]
def expVV (l0 l1 : Int) (rs : List Rd) (ms : List Mv) (i day : Int) : Int × Int := if expEE l0 l1 rs ms i day = 0 then (match rs[i.toNat]? with | some x => rngV l0 l1 ms x day | none => (0, 0)) else (0, 0)
set_option maxRecDepth 100000 in
set_option maxHeartbeats 1000000 in
theorem expectedAt_any (l0 l1 : Int) (A A2 : Option Addr) (rs : List Rd) (ms : List Mv) (c c2 : Nat) (i day : Int) (w : World) (hnl : rs.length ≤ 4611686018427387904)
    (hs : ∀ x ∈ rs, x.c.size ≤ 9223372036854775807) (hat : At 4 Rd.cs w A rs)
    (hs2 : ∀ x ∈ ms, x.f.size ≤ 9223372036854775807 ∧ x.t.size ≤ 9223372036854775807) (hat2 : At 4 Mv.cs w A2 ms) :
    Calls Try.prog 55 #[.agg #[.int .i64 l0, .int .i64 l1, .slice A rs.length c, .slice A2 ms.length c2], .int .i64 i, .int .i64 day] w fun e w' =>
      e = .returned (.tuple #[.agg #[.int .i64 (expVV l0 l1 rs ms i day).1, .int .i64 (expVV l0 l1 rs ms i day).2], .int .i64 (expEE l0 l1 rs ms i day)]) ∧ Below w.heap.size w w' := by
  have hO := Lib.hid fun W hb => openBook_any l0 l1 A A2 rs ms c c2 W hs (At.below hat hb) hs2 (At.below hat2 hb)
  have hR := Lib.hid fun W => readingErr_any l0 l1 A A2 rs.length c ms.length c2 i W hnl
  by_cases hz : expEE l0 l1 rs ms i day = 0
  · have h3 := firstE3_zero hz
    have hR' := right_of h3.1
    obtain ⟨i1, i2⟩ := within_true (unl_zero (by decide) h3.2.1)
    obtain ⟨j1, j2⟩ := within_true (unl_zero (by decide) h3.2.2)
    obtain ⟨x, hx⟩ : ∃ x, rs[i.toNat]? = some x := ⟨_, List.getElem?_eq_getElem (by omega)⟩
    unfold expVV
    rw [if_pos hz, hz, hx]
    unfold rngV
    dsimp only
    have hbd := allows_bd l0 l1 rs ms x day hR' (List.mem_of_getElem? hx) j1 j2
    have hxr := hR'.rd x (List.mem_of_getElem? hx)
    have hA := Lib.hid fun sr c W (hW : Below w.heap.size w W) => allows_any l0 l1 sr A2 ms c x day W hR'.mn hR'.mv (At.below hat2 hW) hR'.l0.1 hR'.l0.2 hR'.l1.1 hR'.l1.2 j1 j2 ⟨hxr.1, hxr.2.1⟩ ⟨hxr.2.2.1, hxr.2.2.2.1⟩ ⟨hxr.2.2.2.2.1, hxr.2.2.2.2.2⟩
    have hT := Lib.hid fun W => told_any (allowsLo l0 l1 ms x day) (allowsHi l0 l1 ms x day) W (by omega) (by omega) (by omega) (by omega)
    obtain ⟨bb, o, rfl, hxy'⟩ := hat.one' hx
    have hxy := Lib.hid hxy'
    generalize allowsLo l0 l1 ms x day = a1 at *
    generalize allowsHi l0 l1 ms x day = a2 at *
    obtain ⟨xc, xd, xl, xh⟩ := x
    obtain ⟨a, rfl⟩ : ∃ a : Nat, i = a := ⟨i.toNat, by omega⟩
    have hi3 : (a : Int) < (rs.length : Int) := by omega
    rw [Int.toNat_natCast] at hxy
    have z2 : (firstE [(checkB l0 l1 rs ms).2, unl (within (a : Int) 0 ((rs.length : Int) - 1)) 6, unl (within day 0 100000) 2] != 0) = false := by
      unfold expEE at hz
      rw [hz]
      rfl
    clear hxy' hs hs2 hat hat2 hz h3 hR' hx hbd hxr i1 i2 j1 j2
    generalize (checkB l0 l1 rs ms).2 = E at *
    generalize rs.length = n at *
    generalize ms.length = m at *
    go_enter Try.func55, Try.ntmps55
    go_wp2_with (first | (go_at_call 84; refine (hO.out _ ?_).mono ?_; (· go_grown); rintro e w1 ⟨rfl, hb⟩; have hbw := via (by go_grown : Below w.heap.size w _) hb; have hsw := hbw.size; have B0 : w1.heap[w.heap.size]? = some (.cells #[.int .i64 l0, .int .i64 l1, .slice (some ⟨bb, o, none⟩) n c, .slice A2 m c2] 49 (0, 0)) := bk_keep hb (by (repeat (first | assumption | (refine bk_new _ _ ?_; (simp; done)) | refine bk_drew ?_ | refine bk_alloc ?_ _ | refine bk_set ?_ (by simp <;> omega) _))); have B1 : w1.heap[w.heap.size + 1]? = some (.cells #[.int .i64 0, .int .i64 0] 24 (0, 0)) := bk_keep hb (by (repeat (first | assumption | (refine bk_new _ _ ?_; (simp; done)) | refine bk_drew ?_ | refine bk_alloc ?_ _ | refine bk_set ?_ (by simp <;> omega) _))); have C0 := bk4 B0; have C1 := bk2 B1) | (go_at_call 108; refine (hR.out _).mono ?_; rintro e w2 ⟨rfl, hb⟩; have hbw := via (by go_grown : Below w.heap.size w _) hb; have hsw := hbw.size; replace B0 := bk_keep hb (bk_alloc B0 _); replace B1 := bk_keep hb (bk_alloc B1 _); replace C0 := bk4 B0; replace C1 := bk2 B1; have B2 : w2.heap[w1.heap.size]? = some (.cells #[.int .i64 l0, .int .i64 l1, .slice (some ⟨bb, o, none⟩) n c, .slice A2 m c2] 131 (0, 0)) := bk_keep hb (by (repeat (first | assumption | (refine bk_new _ _ ?_; (simp; done)) | refine bk_drew ?_ | refine bk_alloc ?_ _ | refine bk_set ?_ (by simp <;> omega) _))); have C2 := bk4 B2) | (go_at_call 86; refine (dayErr_any _ _).mono ?_; rintro e w' ⟨rfl, rfl⟩) | (go_at_call 70; refine (first3n _ _ _ _ ?_).mono ?_; (· simp); rintro e w' ⟨rfl, rfl⟩))
    refine wp_world ?_
    intro W hW_W
    have hb_W : Below w.heap.size w W := by rw [hW_W]; go_grown
    have N0 : W.heap[w.heap.size]? = some (.cells #[.int .i64 l0, .int .i64 l1, .slice (some ⟨bb, o, none⟩) n c, .slice A2 m c2] 49 (0, 0)) := by rw [hW_W]; exact bk_alloc B0 _
    have N1 : W.heap[w.heap.size + 1]? = some (.cells #[.int .i64 0, .int .i64 0] 24 (0, 0)) := by rw [hW_W]; exact bk_alloc B1 _
    have N2 : W.heap[w1.heap.size]? = some (.cells #[.int .i64 l0, .int .i64 l1, .slice (some ⟨bb, o, none⟩) n c, .slice A2 m c2] 131 (0, 0)) := by rw [hW_W]; exact bk_alloc B2 _
    obtain ⟨X, hX⟩ : ∃ X, w1.heap.size = X := ⟨_, rfl⟩
    rw [hX] at N2 ⊢
    clear B0 B1 B2 C0 C1 C2 hW_W hX
    have C0 := bk4 N0
    have C1 := bk2 N1
    have C2 := bk4 N2
    obtain ⟨hbb, hcx⟩ := hxy.out W hb_W
    have x0 := hcx 0 _ rfl
    have x1 := hcx 1 _ rfl
    have x2 := hcx 2 _ rfl
    have x3 := hcx 3 _ rfl
    simp only [Nat.add_zero] at x0
    dsimp only at x0 x1 x2 x3 hA
    clear hcx
    refine region_in w 9 (by kernel_rfl) (by kernel_rfl) (by go_grown) ?_
    intro hgc hbx
    simp only [List.take_succ_cons, List.take_zero, List.drop_succ_cons, List.drop_zero]
    repeat (go_big_quiet_step ((first | (go_at_call 106; exact Grew.call (hA.out _ _ _ (hbx.out _))) | (go_at_call 105; exact Grew.call (hT.out _)))))
    refine wpQuiet_nil ?_
    intro wb hb_wb hw_wb hs_wb
    clear hgc hbx
    have C1 := bk2 (bk_keep hb_wb N1)
    go_wp2
    refine bodyPost_ret (v := .tuple #[.agg #[.int .i64 (a1 / 1000), .int .i64 (-(-a2 / 1000))], .int .i64 0]) ?_ rfl ⟨rfl, by go_grown⟩
    simp [results, Try.results55, go_sem, C1]
  · unfold expVV
    rw [if_neg hz]
    have z2 : (firstE [(checkB l0 l1 rs ms).2, unl (within i 0 ((rs.length : Int) - 1)) 6, unl (within day 0 100000) 2] != 0) = true := by
      unfold expEE at hz
      simpa using hz
    unfold expEE
    clear hz hs hs2 hat hat2
    generalize (checkB l0 l1 rs ms).2 = E at *
    generalize rs.length = n at *
    generalize ms.length = m at *
    go_enter Try.func55, Try.ntmps55
    go_wp2_with (first | (go_at_call 84; refine (hO.out _ ?_).mono ?_; (· go_grown); rintro e w1 ⟨rfl, hb⟩; have hbw := via (by go_grown : Below w.heap.size w _) hb; have hsw := hbw.size; have B0 : w1.heap[w.heap.size]? = some (.cells #[.int .i64 l0, .int .i64 l1, .slice A n c, .slice A2 m c2] 49 (0, 0)) := bk_keep hb (by (repeat (first | assumption | (refine bk_new _ _ ?_; (simp; done)) | refine bk_drew ?_ | refine bk_alloc ?_ _ | refine bk_set ?_ (by simp <;> omega) _))); have B1 : w1.heap[w.heap.size + 1]? = some (.cells #[.int .i64 0, .int .i64 0] 24 (0, 0)) := bk_keep hb (by (repeat (first | assumption | (refine bk_new _ _ ?_; (simp; done)) | refine bk_drew ?_ | refine bk_alloc ?_ _ | refine bk_set ?_ (by simp <;> omega) _))); have C0 := bk4 B0; have C1 := bk2 B1) | (go_at_call 108; refine (hR.out _).mono ?_; rintro e w2 ⟨rfl, hb⟩; have hbw := via (by go_grown : Below w.heap.size w _) hb; have hsw := hbw.size; replace B0 := bk_keep hb (bk_alloc B0 _); replace B1 := bk_keep hb (bk_alloc B1 _); replace C0 := bk4 B0; replace C1 := bk2 B1; have B2 : w2.heap[w1.heap.size]? = some (.cells #[.int .i64 l0, .int .i64 l1, .slice A n c, .slice A2 m c2] 131 (0, 0)) := bk_keep hb (by (repeat (first | assumption | (refine bk_new _ _ ?_; (simp; done)) | refine bk_drew ?_ | refine bk_alloc ?_ _ | refine bk_set ?_ (by simp <;> omega) _))); have C2 := bk4 B2) | (go_at_call 86; refine (dayErr_any _ _).mono ?_; rintro e w' ⟨rfl, rfl⟩) | (go_at_call 70; refine (first3n _ _ _ _ ?_).mono ?_; (· simp); rintro e w' ⟨rfl, rfl⟩))
    refine bodyPost_ret (v := .tuple #[.agg #[.int .i64 0, .int .i64 0], .int .i64 (firstE [E, unl (within i 0 ((n : Int) - 1)) 6, unl (within day 0 100000) 2])]) ?_ rfl ⟨rfl, by go_grown⟩
    simp [results, Try.results55, go_sem, C1]
end Go.Proofs

namespace Go.Proofs
open Go.RowKit

def goneP (l0 l1 : Int) (ms : List Mv) (x y : Rd) : Int × Int := ((rngV l0 l1 ms x y.d).1 - y.hi, (rngV l0 l1 ms x y.d).2 - y.lo)
def goneVV (l0 l1 : Int) (rs : List Rd) (ms : List Mv) (i j : Int) : Int × Int := if pairEE l0 l1 rs ms i j = 0 then (match rs[i.toNat]?, rs[j.toNat]? with | some x, some y => goneP l0 l1 ms x y | _, _ => (0, 0)) else (0, 0)
set_option maxRecDepth 100000 in
set_option maxHeartbeats 1000000 in
theorem gone_any (l0 l1 : Int) (A A2 : Option Addr) (rs : List Rd) (ms : List Mv) (c c2 : Nat) (i j : Int) (w : World) (hnl : rs.length ≤ 4611686018427387904)
    (hs : ∀ x ∈ rs, x.c.size ≤ 9223372036854775807) (hat : At 4 Rd.cs w A rs)
    (hs2 : ∀ x ∈ ms, x.f.size ≤ 9223372036854775807 ∧ x.t.size ≤ 9223372036854775807) (hat2 : At 4 Mv.cs w A2 ms) :
    Calls Try.prog 49 #[.agg #[.int .i64 l0, .int .i64 l1, .slice A rs.length c, .slice A2 ms.length c2], .agg #[.int .i64 i, .int .i64 j]] w fun e w' =>
      e = .returned (.tuple #[.agg #[.int .i64 (goneVV l0 l1 rs ms i j).1, .int .i64 (goneVV l0 l1 rs ms i j).2], .int .i64 (pairEE l0 l1 rs ms i j)]) ∧ Below w.heap.size w w' := by
  have hO := Lib.hid fun W (hb : Below w.heap.size w W) => openPair_any l0 l1 A A2 rs ms c c2 i j W hnl hs (At.below hat hb) hs2 (At.below hat2 hb)
  unfold goneVV pairEE
  by_cases hz : firstE [(checkB l0 l1 rs ms).2, pairE rs i j] = 0
  · have hR := right_of (firstE2_zero hz).1
    obtain ⟨a, b, x, y, rfl, rfl, hx, hy, -⟩ := pairE_zero (firstE2_zero hz).2
    rw [if_pos hz]
    rw [hz] at hO ⊢
    rw [Int.toNat_natCast, Int.toNat_natCast, hx, hy]
    unfold goneP rngV
    dsimp only
    have hyr := hR.rd y (List.mem_of_getElem? hy)
    have hbd := allows_bd l0 l1 rs ms x y.d hR (List.mem_of_getElem? hx) hyr.1 hyr.2.1
    have hxr := hR.rd x (List.mem_of_getElem? hx)
    have hA := Lib.hid fun sr c W (hW : Below w.heap.size w W) => allows_any l0 l1 sr A2 ms c x y.d W hR.mn hR.mv (At.below hat2 hW) hR.l0.1 hR.l0.2 hR.l1.1 hR.l1.2 hyr.1 hyr.2.1 ⟨hxr.1, hxr.2.1⟩ ⟨hxr.2.2.1, hxr.2.2.2.1⟩ ⟨hxr.2.2.2.2.1, hxr.2.2.2.2.2⟩
    have hT := Lib.hid fun W => told_any (allowsLo l0 l1 ms x y.d) (allowsHi l0 l1 ms x y.d) W (by omega) (by omega) (by omega) (by omega)
    obtain ⟨bb, o, rfl, hxy'⟩ := hat.two' hx hy
    have hxy := Lib.hid hxy'
    have hil : (a : Int) < (rs.length : Int) := by have := (List.getElem?_eq_some_iff.1 hx).1; omega
    have hjl : (b : Int) < (rs.length : Int) := by have := (List.getElem?_eq_some_iff.1 hy).1; omega
    generalize allowsLo l0 l1 ms x y.d = a1 at *
    generalize allowsHi l0 l1 ms x y.d = a2 at *
    obtain ⟨xc, xd, xl, xh⟩ := x
    obtain ⟨yc, yd, yl, yh⟩ := y
    dsimp only at hyr
    obtain ⟨-, -, k1, k2, k3, k4⟩ := hyr
    obtain ⟨k5, k6, k7, k8⟩ := hbd
    clear hxy' hs hs2 hat hat2 hz hR hx hy hxr
    generalize rs.length = n at *
    generalize ms.length = m at *
    go_enter Try.func49, Try.ntmps49
    go_wp2_with (first | ((go_at_call 103; refine (hO.out _ ?_).mono ?_; (· go_grown); rintro e w1 ⟨rfl, hb⟩; have hbw := via (by go_grown : Below w.heap.size w _) hb; have hsw := hbw.size; have B0 : w1.heap[w.heap.size]? = some (.cells #[.int .i64 l0, .int .i64 l1, .slice (some ⟨bb, o, none⟩) n c, .slice A2 m c2] 49 (0, 0)) := bk_keep hb (by (repeat (first | assumption | (refine bk_new _ _ ?_; (simp; done)) | refine bk_drew ?_ | refine bk_alloc ?_ _ | refine bk_set ?_ (by simp <;> omega) _))); have B1 : w1.heap[w.heap.size + 1]? = some (.cells #[.int .i64 (a : Int), .int .i64 (b : Int)] 42 (0, 0)) := bk_keep hb (by (repeat (first | assumption | (refine bk_new _ _ ?_; (simp; done)) | refine bk_drew ?_ | refine bk_alloc ?_ _ | refine bk_set ?_ (by simp <;> omega) _))); have B2 : w1.heap[w.heap.size + 1 + 1]? = some (.cells #[.int .i64 0, .int .i64 0] 24 (0, 0)) := bk_keep hb (by (repeat (first | assumption | (refine bk_new _ _ ?_; (simp; done)) | refine bk_drew ?_ | refine bk_alloc ?_ _ | refine bk_set ?_ (by simp <;> omega) _))); have C0 := bk4 B0; have C1 := bk2 B1; have C2 := bk2 B2); obtain ⟨hbb, hcx, hcy⟩ := hxy.out w1 (hbw); have x0 := hcx 0 _ rfl; have x1 := hcx 1 _ rfl; have x2 := hcx 2 _ rfl; have x3 := hcx 3 _ rfl; have y0 := hcy 0 _ rfl; have y1 := hcy 1 _ rfl; have y2 := hcy 2 _ rfl; have y3 := hcy 3 _ rfl; simp only [Nat.add_zero] at x0 y0; dsimp only at x0 x1 x2 x3 y0 y1 y2 y3; clear hcx hcy))
    refine wp_world ?_
    intro V hW_V
    have hb_V : Below w.heap.size w V := by rw [hW_V]; go_grown
    have M0 : V.heap[w.heap.size]? = some (.cells #[.int .i64 l0, .int .i64 l1, .slice (some ⟨bb, o, none⟩) n c, .slice A2 m c2] 49 (0, 0)) := by rw [hW_V]; exact bk_alloc (bk_alloc B0 _) _
    have M1 : V.heap[w.heap.size + 1]? = some (.cells #[.int .i64 (a : Int), .int .i64 (b : Int)] 42 (0, 0)) := by rw [hW_V]; exact bk_alloc (bk_alloc B1 _) _
    have M2 : V.heap[w.heap.size + 1 + 1]? = some (.cells #[.int .i64 0, .int .i64 0] 24 (0, 0)) := by rw [hW_V]; exact bk_alloc (bk_alloc B2 _) _
    have M3 : V.heap[w1.heap.size]? = some (.cells #[.int .i64 l0, .int .i64 l1, .slice (some ⟨bb, o, none⟩) n c, .slice A2 m c2] 131 (0, 0)) := by rw [hW_V]; exact bk_alloc (bk_new _ _ rfl) _
    have M4 : V.heap[w1.heap.size + 1]? = some (.cells #[.string yc, .int .i64 yd, .int .i64 yl, .int .i64 yh] 73 (0, 0)) := by rw [hW_V]; exact bk_new _ _ (by simp)
    obtain ⟨X, hX⟩ : ∃ X, w1.heap.size = X := ⟨_, rfl⟩
    have hX2 : w.heap.size + 1 + 1 < X := by rw [← hX]; exact bk_size B2
    rw [hX] at M3 M4 ⊢
    clear x0 x1 x2 x3 y0 y1 y2 y3 hbb hb hbw hsw B0 B1 B2 C0 C1 C2 hW_V hX
    apply region_store w 11 12 9 (.cells #[.int .i64 0, .int .i64 0] 24 (0, 0)) (.cells #[.int .i64 (a1 / 1000), .int .i64 (-(-a2 / 1000))] 24 (0, 0))
    case hm => kernel_rfl
    case hB => kernel_rfl
    case hB' => kernel_rfl
    case hS => kernel_rfl
    case hN => kernel_rfl
    case hw => exact hb_V
    case hal => intro o ho; simp at ho; subst ho; intro a x; kernel_rfl
    case hq =>
      intro u hu hgc hbx hbX
      have C0 := bk4 (bk_keep hu M0)
      have C1 := bk2 (bk_keep hu M1)
      have C3 := bk4 (bk_keep hu M3)
      have C4 := bk4 (bk_keep hu M4)
      obtain ⟨hbb, hcx, hcy⟩ := hxy.out u (via hb_V hu)
      have x0 := hcx 0 _ rfl
      have x1 := hcx 1 _ rfl
      have x2 := hcx 2 _ rfl
      have x3 := hcx 3 _ rfl
      have y0 := hcy 0 _ rfl
      have y1 := hcy 1 _ rfl
      have y2 := hcy 2 _ rfl
      have y3 := hcy 3 _ rfl
      simp only [Nat.add_zero] at x0 y0
      dsimp only at x0 x1 x2 x3 y0 y1 y2 y3
      clear hcx hcy
      simp only [dummyAt, struck, Nat.reduceAdd, Nat.reduceBEq, Nat.zero_add, Bool.or_false, Bool.or_true, Bool.false_or, Bool.true_or, Bool.false_eq_true, if_true, if_false, Bool.or_self]
      repeat (go_big_quiet_step (first | (go_at_call 106; exact Grew.call (hA.out _ _ _ (hbx.out _))) | (go_at_call 105; exact Grew.call (hT.out _))))
      exact wpQuiet_nil rfl
    case hst =>
      intro o ho B x hx hB hz
      simp only [List.getElem?_cons_succ, List.getElem?_cons_zero, Option.some.injEq] at ho
      subst ho
      exact ⟨_, run_store2 rfl rfl rfl (by kernel_rfl) (by kernel_rfl) (by kernel_rfl) hz, below_in (below_in hx hB _) hB _, bk_here (bk_here hz _ rfl) _ rfl⟩
    case h =>
      intro B u hB hu hbw E1
      simp only [Act.put, List.setIfInBounds_toArray, List.set_cons_succ, List.set_cons_zero]
      have C2 := bk2 (bk_keep hu M2)
      have C4 := bk4 (bk_keep hu M4)
      have C5 := bk2 E1
      clear hb_V
      go_wp2
      refine bodyPost_ret (v := .tuple #[.agg #[.int .i64 (a1 / 1000 - yh), .int .i64 (-(-a2 / 1000) - yl)], .int .i64 0]) ?_ rfl ⟨rfl, by go_grown⟩
      simp [results, Try.results49, go_sem, C2]
  · rw [if_neg hz]
    have z2 : (firstE [(checkB l0 l1 rs ms).2, pairE rs i j] != 0) = true := by simpa using hz
    generalize firstE [(checkB l0 l1 rs ms).2, pairE rs i j] = E at *
    clear hz hs hs2 hat hat2
    generalize rs.length = n at *
    generalize ms.length = m at *
    go_enter Try.func49, Try.ntmps49
    go_wp2_with (first | (go_at_call 103; refine (hO.out _ ?_).mono ?_; (· go_grown); rintro e w1 ⟨rfl, hb⟩; have hbw := via (by go_grown : Below w.heap.size w _) hb; have hsw := hbw.size; have B0 : w1.heap[w.heap.size]? = some (.cells #[.int .i64 l0, .int .i64 l1, .slice A n c, .slice A2 m c2] 49 (0, 0)) := bk_keep hb (by (repeat (first | assumption | (refine bk_new _ _ ?_; (simp; done)) | refine bk_drew ?_ | refine bk_alloc ?_ _ | refine bk_set ?_ (by simp <;> omega) _))); have B1 : w1.heap[w.heap.size + 1]? = some (.cells #[.int .i64 i, .int .i64 j] 42 (0, 0)) := bk_keep hb (by (repeat (first | assumption | (refine bk_new _ _ ?_; (simp; done)) | refine bk_drew ?_ | refine bk_alloc ?_ _ | refine bk_set ?_ (by simp <;> omega) _))); have B2 : w1.heap[w.heap.size + 1 + 1]? = some (.cells #[.int .i64 0, .int .i64 0] 24 (0, 0)) := bk_keep hb (by (repeat (first | assumption | (refine bk_new _ _ ?_; (simp; done)) | refine bk_drew ?_ | refine bk_alloc ?_ _ | refine bk_set ?_ (by simp <;> omega) _))); have C0 := bk4 B0; have C1 := bk2 B1; have C2 := bk2 B2))
    refine bodyPost_ret (v := .tuple #[.agg #[.int .i64 0, .int .i64 0], .int .i64 E]) ?_ rfl ⟨rfl, by go_grown⟩
    simp [results, Try.results49, go_sem, C2]
end Go.Proofs
