import Derived.Test.YtceiinlmblgdoaaGreatDoorB
import Derived.Test.YtceiinlmblgdoaaGreatDoorC
set_option linter.unusedSimpArgs false
set_option linter.unusedVariables false
namespace Go.Proofs
open Go.RowKit

def within (n lo hi : Int) : Bool := decide (lo ≤ n) && decide (n ≤ hi)

theorem within_any (n lo hi : Int) (w : World) :
    Calls Tryz.prog 29 #[.int .i64 n, .int .i64 lo, .int .i64 hi] w fun e w' => e = .returned (.bool (within n lo hi)) ∧ w = w' := by
  unfold within
  by_cases h : lo ≤ n <;> by_cases h2 : n ≤ hi
  all_goals
    go_enter Tryz.func29, Tryz.ntmps29
    go_wp2
    go_ret
    simp_all

theorem refWithin_any (n lo hi : Int) (w : World) :
    Calls Tryz.prog 54 #[.int .i64 n, .int .i64 lo, .int .i64 hi] w fun e w' => e = .returned (.bool (within n lo hi)) ∧ w = w' := by
  unfold within
  by_cases h : lo ≤ n <;> by_cases h2 : n ≤ hi
  all_goals
    go_enter Tryz.func54, Tryz.ntmps54
    go_wp2
    go_ret
    simp_all

def unl (b : Bool) (n : Int) : Int := if b then 0 else n
theorem unless_any (b : Bool) (n : Int) (w : World) :
    Calls Tryz.prog 36 #[.bool b, .int .i64 n] w fun e w' => e = .returned (.int .i64 (unl b n)) ∧ w = w' := by
  cases b
  all_goals
    go_enter Tryz.func36, Tryz.ntmps36
    go_wp2
    go_ret
    simp_all [unl]

theorem isRadius_any (n m : Int) (w : World) :
    Calls Tryz.prog 28 #[.int .i64 n, .int .i64 m] w fun e w' => e = .returned (.bool (within n 10 m)) ∧ w = w' := by
  go_enter Tryz.func28, Tryz.ntmps28
  go_wp2_with (go_at_call 29; refine (within_any _ _ _ _).mono ?_; rintro e w' ⟨rfl, rfl⟩)
  go_ret
  exact ⟨rfl, rfl⟩

theorem isVolume_any (n : Int) (w : World) :
    Calls Tryz.prog 50 #[.int .i64 n] w fun e w' => e = .returned (.bool (within n 0 100000)) ∧ w = w' := by
  go_enter Tryz.func50, Tryz.ntmps50
  go_wp2_with (go_at_call 29; refine (within_any _ _ _ _).mono ?_; rintro e w' ⟨rfl, rfl⟩)
  go_ret
  exact ⟨rfl, rfl⟩

theorem isDay_any (n : Int) (w : World) :
    Calls Tryz.prog 49 #[.int .i64 n] w fun e w' => e = .returned (.bool (within n 0 100000)) ∧ w = w' := by
  go_enter Tryz.func49, Tryz.ntmps49
  go_wp2_with (go_at_call 29; refine (within_any _ _ _ _).mono ?_; rintro e w' ⟨rfl, rfl⟩)
  go_ret
  exact ⟨rfl, rfl⟩

theorem orderErr_any (a b : Int) (w : World) :
    Calls Tryz.prog 52 #[.agg #[.int .i64 a, .int .i64 b]] w fun e w' => e = .returned (.int .i64 (unl (decide (a ≤ b)) 9)) ∧ Below w.heap.size w w' := by
  go_enter Tryz.func52, Tryz.ntmps52
  go_wp2_with (go_at_call 36; refine (unless_any _ _ _).mono ?_; rintro e w' ⟨rfl, rfl⟩)
  go_ret
  exact ⟨rfl, (Below.refl _ _).alloc (Nat.le_refl _) _⟩

/-- The first error of a list. -/
def firstE : List Int → Int
  | [] => 0
  | e :: l => if e = 0 then firstE l else e
theorem firstE_drop (es : List Int) : ∀ k, (∀ j, j < k → es.getD j 0 = 0) → firstE es = firstE (es.drop k) := by
  intro k
  induction k generalizing es with
  | zero => intro _; simp
  | succ k ih =>
    intro h
    cases es with
    | nil => simp
    | cons e l =>
      have he : e = 0 := by simpa using h 0 (by omega)
      simp only [firstE, he, if_true, List.drop_succ_cons]
      exact ih l (fun j hj => by simpa using h (j + 1) (by omega))
theorem firstE_at (es : List Int) (k : Nat) (hk : k < es.length) (h : ∀ j, j < k → es.getD j 0 = 0) (hne : es.getD k 0 ≠ 0) : firstE es = es.getD k 0 := by
  rw [firstE_drop es k h, List.drop_eq_getElem_cons hk]
  have : es.getD k 0 = es[k] := by simp [hk]
  simp only [firstE]
  rw [if_neg (by rw [← this]; exact hne), this]
theorem firstE_none (es : List Int) (h : ∀ j, j < es.length → es.getD j 0 = 0) : firstE es = 0 := by
  rw [firstE_drop es es.length h]; simp [firstE]

theorem first_any (es : List Int) (b : Nat) (w : World) (hl : es.length ≤ 100) (hc : ∀ j, j < es.length → w.cell? ⟨b, j, none⟩ = some (.int .i64 (es.getD j 0))) :
    Calls Tryz.prog 32 #[.slice (some ⟨b, 0, none⟩) es.length es.length] w fun e w' => e = .returned (.int .i64 (firstE es)) ∧ w = w' := by
  have hc' := Lib.hid hc
  clear hc
  go_enter Tryz.func32, Tryz.ntmps32
  go_wp2
  go_loop [7] (fun i => ∃ k : Nat, k ≤ es.length ∧ i = .int .i64 k ∧ Hid (∀ j, j < k → es.getD j 0 = 0)) (fun i => es.length - (intOf i).toNat)
  case atStart => exact ⟨0, Nat.zero_le _, rfl, fun j hj => by omega⟩
  case round =>
    obtain ⟨k, hk, rfl, hz⟩ := hrel
    by_cases hlt : k < es.length
    · have hck := hc'.out k hlt
      obtain ⟨v, hv⟩ : ∃ v, es.getD k 0 = v := ⟨_, rfl⟩
      rw [hv] at hck
      have hv' := Lib.hid hv
      clear hv
      by_cases h0 : v = 0
      · have hb : (v != 0) = false := by simp [h0]
        have h0' := Lib.hid h0
        clear h0
        go_wp2
        go_round
        case rel => exact ⟨k + 1, by omega, by go_num, fun j hj => by
          by_cases e : j = k
          · subst e; rw [hv'.out]; exact h0'.out
          · exact hz.out j (by omega)⟩
        case measure => simp [intOf]; omega
      · have hb : (v != 0) = true := by simp [h0]
        go_wp2
        go_ret
        exact ⟨ret_int (by rw [firstE_at es k hlt hz.out (by rw [hv'.out]; exact h0)]; exact hv'.out.symm), rfl⟩
    · go_wp2
      go_ret
      exact ⟨ret_int (firstE_none es (fun j hj => hz.out j (by omega))).symm, rfl⟩

theorem first2 (a b : Int) (w : World) : Calls Tryz.prog 32 #[.slice (some ⟨w.heap.size, 0, none⟩) 2 2] (w.alloc (.cells #[.int .i64 a, .int .i64 b] 28)) fun e w' => e = .returned (.int .i64 (firstE [a, b])) ∧ w.alloc (.cells #[.int .i64 a, .int .i64 b] 28) = w' :=
  first_any [a, b] w.heap.size _ (by simp) (fun j hj => by rw [World.cell?_alloc_at _ _ _ _ rfl]; match j, hj with | 0, _ => rfl | 1, _ => rfl)
theorem first3 (a b c : Int) (w : World) : Calls Tryz.prog 32 #[.slice (some ⟨w.heap.size, 0, none⟩) 3 3] (w.alloc (.cells #[.int .i64 a, .int .i64 b, .int .i64 c] 28)) fun e w' => e = .returned (.int .i64 (firstE [a, b, c])) ∧ w.alloc (.cells #[.int .i64 a, .int .i64 b, .int .i64 c] 28) = w' :=
  first_any [a, b, c] w.heap.size _ (by simp) (fun j hj => by rw [World.cell?_alloc_at _ _ _ _ rfl]; match j, hj with | 0, _ => rfl | 1, _ => rfl | 2, _ => rfl)
theorem first4 (a b c d : Int) (w : World) : Calls Tryz.prog 32 #[.slice (some ⟨w.heap.size, 0, none⟩) 4 4] (w.alloc (.cells #[.int .i64 a, .int .i64 b, .int .i64 c, .int .i64 d] 28)) fun e w' => e = .returned (.int .i64 (firstE [a, b, c, d])) ∧ w.alloc (.cells #[.int .i64 a, .int .i64 b, .int .i64 c, .int .i64 d] 28) = w' :=
  first_any [a, b, c, d] w.heap.size _ (by simp) (fun j hj => by rw [World.cell?_alloc_at _ _ _ _ rfl]; match j, hj with | 0, _ => rfl | 1, _ => rfl | 2, _ => rfl | 3, _ => rfl)
theorem first5 (a b c d f : Int) (w : World) : Calls Tryz.prog 32 #[.slice (some ⟨w.heap.size, 0, none⟩) 5 5] (w.alloc (.cells #[.int .i64 a, .int .i64 b, .int .i64 c, .int .i64 d, .int .i64 f] 28)) fun e w' => e = .returned (.int .i64 (firstE [a, b, c, d, f])) ∧ w.alloc (.cells #[.int .i64 a, .int .i64 b, .int .i64 c, .int .i64 d, .int .i64 f] 28) = w' :=
  first_any [a, b, c, d, f] w.heap.size _ (by simp) (fun j hj => by rw [World.cell?_alloc_at _ _ _ _ rfl]; match j, hj with | 0, _ => rfl | 1, _ => rfl | 2, _ => rfl | 3, _ => rfl | 4, _ => rfl)

def gaugingE (s : List UInt8) (d lo hi : Int) : Int :=
  firstE [unl (nameB s) 4, unl (within d 0 100000 && within lo 0 100000 && within hi 0 100000) 2, unl (decide (lo ≤ hi)) 9]

set_option maxHeartbeats 400000 in
theorem gaugingErr_any (s : ByteArray) (d lo hi : Int) (w : World) (hs : s.size ≤ 9223372036854775807) :
    Calls Tryz.prog 21 #[.agg #[.string s, .int .i64 d, .int .i64 lo, .int .i64 hi]] w fun e w' => e = .returned (.int .i64 (gaugingE s.data.toList d lo hi)) ∧ Below w.heap.size w w' := by
  unfold gaugingE
  obtain ⟨b1, h1⟩ : ∃ b, within d 0 100000 = b := ⟨_, rfl⟩
  obtain ⟨b2, h2⟩ : ∃ b, within lo 0 100000 = b := ⟨_, rfl⟩
  obtain ⟨b3, h3⟩ : ∃ b, within hi 0 100000 = b := ⟨_, rfl⟩
  have hsz : w.heap.size < w.heap.size + 1 := by omega
  cases b1 <;> cases b2 <;> cases b3
  all_goals
    go_enter Tryz.func21, Tryz.ntmps21
    go_wp2_with (first
      | (go_at_call 49; refine (isDay_any _ _).mono ?_; rintro e w' ⟨rfl, rfl⟩)
      | (go_at_call 50; refine (isVolume_any _ _).mono ?_; rintro e w' ⟨rfl, rfl⟩))
    have hgc := fun (x : Grew (w.alloc (.cells #[.string s, .int .i64 d, .int .i64 lo, .int .i64 hi] 25))) => x.cell
    refine wp_region_grew 9 (by kernel_rfl) (by kernel_rfl) ?_
    simp only [List.take_succ_cons, List.take_zero, List.drop_succ_cons, List.drop_zero]
    repeat (go_big_quiet_step (first
      | (go_at_call 51; exact Grew.call (isName_any _ _ hs))
      | (go_at_call 36; exact Grew.call_same (unless_any _ _ _))
      | (go_at_call 52; exact Grew.call (orderErr_any _ _ _))))
    refine wpQuiet_nil ?_
    intro x
    have hb := x.ok
    generalize x.val = W1 at hb ⊢
    clear x hgc
    go_wp2_with (go_at_call 32; refine (first3 _ _ _ _).mono ?_; rintro e w' ⟨rfl, rfl⟩)
    go_ret
    exact ⟨ret_int (by simp [h1, h2, h3]), via_alloc (via (new_below _ _) hb) _⟩
end Go.Proofs
