import Derived.Test.YtceiinlmblgdoaaGreatDoorG
set_option linter.unusedSimpArgs false
set_option linter.unusedVariables false
namespace Go.Proofs
open Go.RowKit

/-- The first error of a book that is not of its lists. -/
def bookE (l0 l1 : Int) (n m : Nat) : Int :=
  firstE [unl (within l0 0 100000 && within l1 0 100000) 2, unl (decide (l0 ≤ l1)) 9, unl (decide ((n : Int) ≤ 40) && decide ((m : Int) ≤ 60)) 8]
/-- The mark and the error of a book. -/
def checkB (l0 l1 : Int) (rs : List Rd) (ms : List Mv) : (Int × Int) × Int :=
  if bookE l0 l1 rs.length ms.length = 0 then
    if (datedE rdErr Rd.d rs none 0).2 = 0 then
      if (datedE moveE Mv.d ms none 0).2 = 0 then ((0, 0), 0) else ((2, (datedE moveE Mv.d ms none 0).1), (datedE moveE Mv.d ms none 0).2)
    else ((1, (datedE rdErr Rd.d rs none 0).1), (datedE rdErr Rd.d rs none 0).2)
  else ((0, 0), bookE l0 l1 rs.length ms.length)
def bval (p : (Int × Int) × Int) : Value := .tuple #[.agg #[.int .i64 p.1.1, .int .i64 p.1.2], .int .i64 p.2]

set_option maxRecDepth 100000 in
set_option maxHeartbeats 2000000 in
theorem checkBook_bad (l0 l1 : Int) (A A2 : Option Addr) (n c n2 c2 : Nat) (w : World) (hbad : bookE l0 l1 n n2 ≠ 0) :
    Calls Tryz.prog 56 #[.agg #[.int .i64 l0, .int .i64 l1, .slice A n c, .slice A2 n2 c2]] w fun e w' =>
      e = .returned (bval ((0, 0), bookE l0 l1 n n2)) ∧ Below w.heap.size w w' := by
  unfold bookE at *
  obtain ⟨b1, h1⟩ : ∃ b, within l0 0 100000 = b := ⟨_, rfl⟩
  obtain ⟨b2, h2⟩ : ∃ b, within l1 0 100000 = b := ⟨_, rfl⟩
  obtain ⟨s1, h3⟩ : ∃ b, decide ((n : Int) ≤ 40) = b := ⟨_, rfl⟩
  obtain ⟨s2, h4⟩ : ∃ b, decide ((n2 : Int) ≤ 60) = b := ⟨_, rfl⟩
  have hc : (b1 = false ∨ (b1 = true ∧ b2 = false) ∨ (b1 = true ∧ b2 = true)) ∧ (s1 = false ∨ (s1 = true ∧ s2 = false) ∨ (s1 = true ∧ s2 = true)) := by
    clear h1 h2 h3 h4 hbad; revert b1 b2 s1 s2; decide
  rw [h1, h2, h3, h4] at hbad ⊢
  rcases hc.1 with rfl | ⟨rfl, rfl⟩ | ⟨rfl, rfl⟩ <;> rcases hc.2 with rfl | ⟨rfl, rfl⟩ | ⟨rfl, rfl⟩
  all_goals
    clear hc
    simp only [Bool.and_self, Bool.and_true, Bool.and_false, Bool.true_and, Bool.false_and] at hbad ⊢
    have hzz := bne_iff_ne.2 hbad
    have hbad' := Lib.hid hbad
    clear hbad
    go_enter Tryz.func56, Tryz.ntmps56
    go_wp2_with (go_at_call 29; refine (within_any _ _ _ _).mono ?_; rintro e w' ⟨rfl, rfl⟩)
    refine region_in w 7 (by kernel_rfl) (by kernel_rfl) (by go_grown) ?_
    intro hgc hbx
    simp only [List.take_succ_cons, List.take_zero, List.drop_succ_cons, List.drop_zero]
    repeat (go_big_quiet_step (first
      | (go_at_call 52; exact Grew.call (orderErr_any _ _ _))
      | (go_at_call 36; exact Grew.call_same (unless_any _ _ _))))
    refine wpQuiet_nil ?_
    intro w1 hb hbw hsz
    clear hgc hbx
    have hcc := gcell hb
    have hff := gfrozen hb
    simp only [World.size_alloc] at hsz
    have hz0 : w.heap.size < w1.heap.size := by omega
    have hz1 : w.heap.size + 1 < w1.heap.size := by omega
    go_wp2_with (go_at_call 32; refine (first3 _ _ _ _).mono ?_; rintro e w' ⟨rfl, rfl⟩)
    exact bodyPost_ret (v := bval ((0, 0), _)) (by simp [results, Tryz.results56, go_sem, hcc, hff, hz0, hz1]; rfl) rfl ⟨rfl, by go_grown⟩
end Go.Proofs
