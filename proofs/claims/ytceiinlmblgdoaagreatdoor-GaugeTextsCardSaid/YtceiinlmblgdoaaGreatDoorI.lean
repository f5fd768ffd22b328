import Derived.Test.YtceiinlmblgdoaaGreatDoorH
set_option linter.unusedSimpArgs false
set_option linter.unusedVariables false
namespace Go.Proofs
open Go.RowKit

theorem bookE_zero {l0 l1 : Int} {n m : Nat} (h : bookE l0 l1 n m = 0) : within l0 0 100000 = true ∧ within l1 0 100000 = true ∧ l0 ≤ l1 ∧ n ≤ 40 ∧ m ≤ 60 := by
  unfold bookE firstE unl at h
  by_cases h1 : within l0 0 100000 = true <;> by_cases h2 : within l1 0 100000 = true <;> by_cases h3 : l0 ≤ l1 <;> by_cases h4 : (n : Int) ≤ 40 <;> by_cases h5 : (m : Int) ≤ 60 <;> simp [h1, h2, h3, h4, h5, firstE] at h
  exact ⟨h1, h2, h3, by omega, by omega⟩

set_option maxRecDepth 100000 in
set_option maxHeartbeats 2000000 in
theorem checkBook_good (l0 l1 : Int) (A A2 : Option Addr) (rs : List Rd) (ms : List Mv) (c c2 : Nat) (w : World) (hok : bookE l0 l1 rs.length ms.length = 0)
    (hs : ∀ x ∈ rs, x.c.size ≤ 9223372036854775807) (hat : At 4 Rd.cs w A rs)
    (hs2 : ∀ x ∈ ms, x.f.size ≤ 9223372036854775807 ∧ x.t.size ≤ 9223372036854775807) (hat2 : At 4 Mv.cs w A2 ms) :
    Calls Tryz.prog 56 #[.agg #[.int .i64 l0, .int .i64 l1, .slice A rs.length c, .slice A2 ms.length c2]] w fun e w' =>
      e = .returned (bval (checkB l0 l1 rs ms)) ∧ Below w.heap.size w w' := by
  obtain ⟨h1, h2, h3, h4, h5⟩ := bookE_zero hok
  have hcb : checkB l0 l1 rs ms = if (datedE rdErr Rd.d rs none 0).2 = 0 then
      if (datedE moveE Mv.d ms none 0).2 = 0 then ((0, 0), 0) else ((2, (datedE moveE Mv.d ms none 0).1), (datedE moveE Mv.d ms none 0).2)
    else ((1, (datedE rdErr Rd.d rs none 0).1), (datedE rdErr Rd.d rs none 0).2) := by unfold checkB; rw [if_pos hok]
  rw [hcb]
  clear hcb
  have hR := fun W hb => datedR_any A rs c W (by omega) hs (At.below hat hb)
  have hM := fun W hb => datedM_any A2 ms c2 W h5 hs2 (At.below hat2 hb)
  obtain ⟨n, hn⟩ : ∃ n, rs.length = n := ⟨_, rfl⟩
  obtain ⟨m, hm⟩ : ∃ m, ms.length = m := ⟨_, rfl⟩
  obtain ⟨i1, e1, hie⟩ : ∃ i e, datedE rdErr Rd.d rs none 0 = (i, e) := ⟨_, _, rfl⟩
  obtain ⟨i2, e2, hie2⟩ : ∃ i e, datedE moveE Mv.d ms none 0 = (i, e) := ⟨_, _, rfl⟩
  rw [hie] at hR ⊢
  rw [hie2] at hM ⊢
  rw [hn] at hR h4 hok ⊢
  rw [hm] at hM h5 hok ⊢
  have hok' := Lib.hid hok
  have hR' := Lib.hid hR
  have hM' := Lib.hid hM
  dsimp only at hR' hM' ⊢
  clear hR hM hok hn hm hie hie2 hs hs2 hat hat2
  have h4' : (n : Int) ≤ 40 := by omega
  have h5' : (m : Int) ≤ 60 := by omega
  clear h4 h5
  have hf : (firstE [unl true 2, unl true 9, unl true 8] != 0) = false := by decide
  have hgo : (if e1 = 0 then if e2 = 0 then (((0 : Int), (0 : Int)), (0 : Int)) else ((2, i2), e2) else ((1, i1), e1)) = ((if e1 = 0 then (if e2 = 0 then 0 else 2) else 1, if e1 = 0 then (if e2 = 0 then 0 else i2) else i1), if e1 = 0 then e2 else e1) := by
    split
    · split
      · rename_i h; rw [h]
      · rfl
    · rfl
  rw [hgo]
  clear hgo
  have hcase : ((e1 != 0) = false ∧ (e2 != 0) = false ∧ e1 = 0 ∧ e2 = 0) ∨ ((e1 != 0) = false ∧ (e2 != 0) = true ∧ e1 = 0 ∧ e2 ≠ 0) ∨ ((e1 != 0) = true ∧ e1 ≠ 0) := by
    by_cases a : e1 = 0 <;> by_cases b : e2 = 0 <;> simp [a, b]
  rcases hcase with ⟨hx1, hx2, hy⟩ | ⟨hx1, hx2, hy⟩ | ⟨hx1, hy⟩
  all_goals
    first | (obtain ⟨rfl, rfl⟩ := hy; simp only [if_true, if_pos]) | (obtain ⟨rfl, hy2⟩ := hy; simp only [if_true, if_neg hy2]; have hy2' := Lib.hid hy2; clear hy2) | (simp only [if_neg hy]; have hy' := Lib.hid hy; clear hy)
    go_enter Tryz.func56, Tryz.ntmps56
    go_wp2_with (go_at_call 29; refine (within_any _ _ _ _).mono ?_; rintro e w' ⟨rfl, rfl⟩)
    refine region_in w 7 (by kernel_rfl) (by kernel_rfl) (by go_grown) ?_
    intro hgc hbx
    simp only [List.take_succ_cons, List.take_zero, List.drop_succ_cons, List.drop_zero]
    repeat (go_big_quiet_step (first
      | (go_at_call 52; exact Grew.call (orderErr_any _ _ _))
      | (go_at_call 36; exact Grew.call_same (unless_any _ _ _))))
    refine wpQuiet_nil ?_
    intro w1 hb hbw hsz
    clear hgc hbx
    have hcc := gcell hb
    have hff := gfrozen hb
    simp only [World.size_alloc] at hsz
    have hz0 : w.heap.size < w1.heap.size := by omega
    have hz1 : w.heap.size + 1 < w1.heap.size := by omega
    go_wp2_with (first
      | (go_at_call 32; refine (first3 _ _ _ _).mono ?_; rintro e w' ⟨rfl, rfl⟩)
      | (go_at_call 78; refine (hR'.out _ ?_).mono ?_; (· go_grown); rintro e w2 ⟨rfl, hb2⟩; have hcc2 := gcell hb2; have hff2 := gfrozen hb2; have hbw2 := via (via_alloc hbw _) hb2; have hy0 : w.heap.size < w2.heap.size := (by have := hb2.size; simp at this; omega); have hy1 : w.heap.size + 1 < w2.heap.size := (by have := hb2.size; simp at this; omega))
      | (go_at_call 80; refine (hM'.out _ ?_).mono ?_; (· go_grown); rintro e w3 ⟨rfl, hb3⟩; have hcc3 := gcell hb3; have hff3 := gfrozen hb3; have hbw3 := via hbw2 hb3))
    refine bodyPost_ret (v := bval ((_, _), _)) ?_ rfl ⟨rfl, ?_⟩
    · first
        | (simp [results, Tryz.results56, go_sem, hcc, hff, hz0, hz1, hcc2, hff2, hy0, hy1, hcc3, hff3]; rfl)
        | (simp [results, Tryz.results56, go_sem, hcc, hff, hz0, hz1, hcc2, hff2, hy0, hy1]; rfl)
    · go_grown
theorem checkBook_any (l0 l1 : Int) (A A2 : Option Addr) (rs : List Rd) (ms : List Mv) (c c2 : Nat) (w : World)
    (hs : ∀ x ∈ rs, x.c.size ≤ 9223372036854775807) (hat : At 4 Rd.cs w A rs)
    (hs2 : ∀ x ∈ ms, x.f.size ≤ 9223372036854775807 ∧ x.t.size ≤ 9223372036854775807) (hat2 : At 4 Mv.cs w A2 ms) :
    Calls Tryz.prog 56 #[.agg #[.int .i64 l0, .int .i64 l1, .slice A rs.length c, .slice A2 ms.length c2]] w fun e w' =>
      e = .returned (bval (checkB l0 l1 rs ms)) ∧ Below w.heap.size w w' := by
  by_cases h : bookE l0 l1 rs.length ms.length = 0
  · exact checkBook_good l0 l1 A A2 rs ms c c2 w h hs hat hs2 hat2
  · have := checkBook_bad l0 l1 A A2 rs.length c ms.length c2 w h
    unfold checkB
    rw [if_neg h]
    exact this

theorem openBook_any (l0 l1 : Int) (A A2 : Option Addr) (rs : List Rd) (ms : List Mv) (c c2 : Nat) (w : World)
    (hs : ∀ x ∈ rs, x.c.size ≤ 9223372036854775807) (hat : At 4 Rd.cs w A rs)
    (hs2 : ∀ x ∈ ms, x.f.size ≤ 9223372036854775807 ∧ x.t.size ≤ 9223372036854775807) (hat2 : At 4 Mv.cs w A2 ms) :
    Calls Tryz.prog 31 #[.agg #[.int .i64 l0, .int .i64 l1, .slice A rs.length c, .slice A2 ms.length c2]] w fun e w' =>
      e = .returned (.tuple #[.agg #[.int .i64 l0, .int .i64 l1, .slice A rs.length c, .slice A2 ms.length c2], .int .i64 (checkB l0 l1 rs ms).2]) ∧ Below w.heap.size w w' := by
  have hC := Lib.hid fun W hb => checkBook_any l0 l1 A A2 rs ms c c2 W hs (At.below hat hb) hs2 (At.below hat2 hb)
  unfold bval at hC
  generalize checkB l0 l1 rs ms = r at hC ⊢
  obtain ⟨⟨m1, m2⟩, e1⟩ := r
  dsimp only at hC ⊢
  clear hs hat hs2 hat2
  go_enter Tryz.func31, Tryz.ntmps31
  go_wp2_with (go_at_call 56; refine (hC.out _ ?_).mono ?_; (· go_grown); rintro e w1 ⟨rfl, hb⟩; have hcc := gcell hb; have hff := gfrozen hb; have hbw := via (by go_grown : Below w.heap.size w _) hb; have hz0 : w.heap.size < w1.heap.size := (by have := hb.size; simp at this; omega); have hz1 : w.heap.size + 1 < w1.heap.size := (by have := hb.size; simp at this; omega))
  refine bodyPost_ret (v := .tuple #[.agg #[.int .i64 l0, .int .i64 l1, .slice A rs.length c, .slice A2 ms.length c2], .int .i64 e1]) ?_ rfl ⟨rfl, ?_⟩
  · simp [results, Tryz.results31, go_sem, hcc, hff, hz0, hz1]
  · go_grown
end Go.Proofs
