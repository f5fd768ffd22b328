import Derived.Test.YtceiinlmblgdoaaGreatDoorD
set_option linter.unusedSimpArgs false
set_option linter.unusedVariables false
namespace Go.Proofs
open Go.RowKit

/-- The slice at 'A' holds the rows 'l', each of 'sz' cells. -/
def At {α : Type} (sz : Nat) (cs : α → List Value) (w : World) (A : Option Addr) (l : List α) : Prop :=
  ∀ k x, l[k]? = some x → ∃ b o, A = some ⟨b, o, none⟩ ∧ b < w.heap.size ∧ ∀ j v, (cs x)[j]? = some v → w.cell? ⟨b, o + k * sz + j, none⟩ = some v
theorem At.below {α : Type} {sz : Nat} {cs : α → List Value} {w w' : World} {A : Option Addr} {l : List α} (h : At sz cs w A l) (hb : Below w.heap.size w w') : At sz cs w' A l := by
  intro k x hx
  obtain ⟨b, o, hA, hlt, hc⟩ := h k x hx
  exact ⟨b, o, hA, Nat.lt_of_lt_of_le hlt hb.size, fun j v hv => (hb.cell (p := ⟨b, o + k * sz + j, none⟩) hlt).trans (hc j v hv)⟩
theorem At.alloc {α : Type} {sz : Nat} {cs : α → List Value} {w : World} {A : Option Addr} {l : List α} (h : At sz cs w A l) (ob : Obj) : At sz cs (w.alloc ob) A l := h.below (new_below _ _)

structure Mv where
  d : Int
  f : ByteArray
  t : ByteArray
  v : Int
def Mv.cs (x : Mv) : List Value := [.int .i64 x.d, .string x.f, .string x.t, .int .i64 x.v]
structure Rd where
  c : ByteArray
  d : Int
  lo : Int
  hi : Int
def Rd.cs (x : Rd) : List Value := [.string x.c, .int .i64 x.d, .int .i64 x.lo, .int .i64 x.hi]

def eqS (a b : ByteArray) : Bool := a.toList == b.toList

def endB (s : ByteArray) : Bool := s.toList.isEmpty || nameB s.data.toList
theorem isEnd_any (s : ByteArray) (w : World) (hs : s.size ≤ 9223372036854775807) :
    Calls Tryz.prog 98 #[.string s] w fun e w' => e = .returned (.bool (endB s)) ∧ Below w.heap.size w w' := by
  unfold endB
  by_cases he : s.toList = []
  · have he' : s.toList.isEmpty = true := by simp [he]
    have he'' := Lib.hid he
    clear he
    go_enter Tryz.func98, Tryz.ntmps98
    go_wp2
    go_ret
    exact ⟨by simp [he'], Below.refl _ _⟩
  · have he' : s.toList.isEmpty = false := by simpa using he
    have he'' := Lib.hid he
    clear he
    go_enter Tryz.func98, Tryz.ntmps98
    go_wp2_with (go_at_call 51; refine (isName_any _ _ hs).mono ?_; rintro e w' ⟨rfl, hb⟩)
    go_ret
    exact ⟨by simp [he'], hb⟩

def moveE (m : Mv) : Int :=
  firstE [unl (within m.d 0 100000) 2, unl (endB m.f && endB m.t) 4, unl (!eqS m.f m.t) 3, unl (within m.v 0 100000) 2]

set_option maxRecDepth 100000 in
set_option maxHeartbeats 400000 in
theorem moveErr_any (m : Mv) (w : World) (hs : m.f.size ≤ 9223372036854775807) (hs2 : m.t.size ≤ 9223372036854775807) :
    Calls Tryz.prog 81 #[.agg #[.int .i64 m.d, .string m.f, .string m.t, .int .i64 m.v]] w fun e w' => e = .returned (.int .i64 (moveE m)) ∧ Below w.heap.size w w' := by
  unfold moveE eqS
  obtain ⟨d, f, t, v⟩ := m
  dsimp only at *
  obtain ⟨b1, h1⟩ : ∃ b, endB f = b := ⟨_, rfl⟩
  cases b1
  all_goals
    have h1' := Lib.hid h1
    clear h1
    have e1 := isEnd_any f
    rw [h1'.out] at e1 ⊢
    have e1' := Lib.hid e1
    clear e1
    go_enter Tryz.func81, Tryz.ntmps81
    go_wp2
    have hgc := fun (x : Grew (w.alloc (.cells #[.int .i64 d, .string f, .string t, .int .i64 v] 83))) => x.cell
    refine wp_region_grew 25 (by kernel_rfl) (by kernel_rfl) ?_
    simp only [List.take_succ_cons, List.take_zero, List.drop_succ_cons, List.drop_zero]
    repeat (go_big_quiet_step (first
      | (go_at_call 49; exact Grew.call_same (isDay_any _ _))
      | (go_at_call 50; exact Grew.call_same (isVolume_any _ _))
      | (go_at_call 36; exact Grew.call_same (unless_any _ _ _))
      | (go_at_call 98; with_reducible exact Grew.call (e1'.out _ hs))
      | (go_at_call 98; with_reducible exact Grew.call (isEnd_any _ _ hs2))))
    refine wpQuiet_nil ?_
    intro x
    have hb := x.ok
    generalize x.val = W1 at hb ⊢
    clear x hgc
    go_wp2_with (go_at_call 32; refine (first4 _ _ _ _ _).mono ?_; rintro e w' ⟨rfl, rfl⟩)
    go_ret
    exact ⟨ret_int (by simp), via_alloc (via (new_below _ _) hb) _⟩

theorem dayOf_any (x : Rd) (w : World) :
    Calls Tryz.prog 79 #[.agg #[.string x.c, .int .i64 x.d, .int .i64 x.lo, .int .i64 x.hi]] w fun e w' => e = .returned (.int .i64 x.d) ∧ Below w.heap.size w w' := by
  go_enter Tryz.func79, Tryz.ntmps79
  go_wp2
  go_ret
  exact ⟨rfl, new_below _ _⟩
theorem dayOfMove_any (m : Mv) (w : World) :
    Calls Tryz.prog 82 #[.agg #[.int .i64 m.d, .string m.f, .string m.t, .int .i64 m.v]] w fun e w' => e = .returned (.int .i64 m.d) ∧ Below w.heap.size w w' := by
  go_enter Tryz.func82, Tryz.ntmps82
  go_wp2
  go_ret
  exact ⟨rfl, new_below _ _⟩
theorem nameErr_any (s : ByteArray) (w : World) (hs : s.size ≤ 9223372036854775807) :
    Calls Tryz.prog 33 #[.string s] w fun e w' => e = .returned (.int .i64 (unl (nameB s.data.toList) 4)) ∧ Below w.heap.size w w' := by
  go_enter Tryz.func33, Tryz.ntmps33
  go_wp2_with (first
    | (go_at_call 51; refine (isName_any _ _ hs).mono ?_; rintro e w' ⟨rfl, hb⟩)
    | (go_at_call 36; refine (unless_any _ _ _).mono ?_; rintro e w' ⟨rfl, rfl⟩))
  go_ret
  exact ⟨rfl, hb⟩
theorem dayErr_any (n : Int) (w : World) :
    Calls Tryz.prog 34 #[.int .i64 n] w fun e w' => e = .returned (.int .i64 (unl (within n 0 100000) 2)) ∧ w = w' := by
  go_enter Tryz.func34, Tryz.ntmps34
  go_wp2_with (first
    | (go_at_call 49; refine (isDay_any _ _).mono ?_; rintro e w' ⟨rfl, rfl⟩)
    | (go_at_call 36; refine (unless_any _ _ _).mono ?_; rintro e w' ⟨rfl, rfl⟩))
  go_ret
  exact ⟨rfl, rfl⟩
end Go.Proofs
