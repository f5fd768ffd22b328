import Derived.Test.YtceiinlmblgdoaaBn
import Derived.Test.YtceiinlmblgdoaaCt
import Derived.Test.YtceiinlmblgdoaaAp
import Derived.Test.YtceiinlmblgdoaaZb
import Derived.Test.YtceiinlmblgdoaaCg
import Derived.Test.YtceiinlmblgdoaaBk2
set_option linter.unusedSimpArgs false
set_option linter.unusedVariables false
namespace Go.Proofs
open Go.RowKit

def Ic (d : Int) : List Value := [.int .i64 d]
def Wc (p : Int × Int) : List Value := [.int .i64 p.1, .int .i64 p.2]
/-- What the loops have gone through: days, with what the gaugings may have been wrong by. -/
def trip (ds : List Int) (ws : List (Int × Int)) : List (Int × Int × Int) := ds.zip ws
theorem okDays_snoc : ∀ (l : List Int) (b : Option Int) (d : Int), okDays b (l ++ [d]) = (okDays b l && okDay (match l.getLast? with | some x => some x | none => b) d)
  | [], b, d => by simp [okDays]
  | [x], b, d => by simp [okDays, Bool.and_assoc]
  | x :: y :: l, b, d => by
    rw [List.cons_append]
    unfold okDays
    rw [okDays_snoc (y :: l) (some x) d, Bool.and_assoc]
    congr 2
theorem trip_len {ds : List Int} {ws : List (Int × Int)} (h : ds.length ≤ ws.length) : (trip ds ws).length = ds.length := by
  unfold trip; rw [List.length_zip]; omega
theorem trip_at {ds : List Int} {ws : List (Int × Int)} {k : Nat} {d : Int} {p : Int × Int} (hd : ds[k]? = some d) (hp : ws[k]? = some p) : (trip ds ws)[k]? = some (d, p) := by
  unfold trip; rw [List.getElem?_zip_eq_some]; exact ⟨hd, hp⟩
theorem take_snoc {α : Type} {l : List α} {k : Nat} {x : α} (h : l[k]? = some x) : l.take (k + 1) = l.take k ++ [x] := by rw [List.take_add_one, h]; rfl
def Asked (V L M l0 l1 t : Int) (n m : Nat) : Prop := within V 0 50000 = true ∧ within l0 0 L = true ∧ within l1 L 1000 = true ∧ within M 0 50 = true ∧ n ≠ 0 ∧ n ≤ 8 ∧ n ≤ m ∧ within t 0 8 = true
set_option maxRecDepth 100000 in
set_option maxHeartbeats 2000000 in
theorem gaugeTrue_idle (w : World) (V L M l0 l1 t : Int) (A A2 : Option Addr) (ds : List Int) (ws : List (Int × Int)) (c c2 : Nat)
    (hno : ¬ Asked V L M l0 l1 t ds.length ws.length) :
    Calls Try.prog 3 #[.agg #[.int .i64 V, .int .i64 L, .int .i64 M, .slice A ds.length c, .slice A2 ws.length c2], .agg #[.int .i64 l0, .int .i64 l1], .int .i64 t] w fun e w' => e = .returned (.bool true) ∧ Below w.heap.size w w' := by
  unfold Asked at hno
  have hno' := Lib.hid hno
  clear hno
  go_enter Try.func3, Try.ntmps3
  go_wp2_with (first | (go_at_call 4; refine (awake_any _).mono ?_; rintro e w1 ⟨rfl, hb⟩; have hbw := via (by go_grown : Below w.heap.size w _) hb; have B0 : w1.heap[w.heap.size]? = some (.cells #[.int .i64 V, .int .i64 L, .int .i64 M, .slice A ds.length c, .slice A2 ws.length c2] 25 (0, 0)) := bk_keep hb (by (repeat (first | assumption | (refine bk_new _ _ ?_; (simp; done)) | refine bk_drew ?_ | refine bk_alloc ?_ _ | refine bk_set ?_ (by simp <;> omega) _))); have B1 : w1.heap[w.heap.size + 1]? = some (.cells #[.int .i64 l0, .int .i64 l1] 27 (0, 0)) := bk_keep hb (by (repeat (first | assumption | (refine bk_new _ _ ?_; (simp; done)) | refine bk_drew ?_ | refine bk_alloc ?_ _ | refine bk_set ?_ (by simp <;> omega) _))); have C0 := bk5 B0; have C1 := bk2 B1) | (go_at_call 5; refine (refWithin_any _ _ _ _).mono ?_; rintro e w' ⟨rfl, rfl⟩))
  any_goals (go_ret; exact ⟨rfl, hbw⟩)
  exfalso
  refine hno'.out ⟨by assumption, by assumption, by assumption, by assumption, ?_, ?_, by assumption, ?_⟩
  · intro e; have := List.eq_nil_of_length_eq_zero e; contradiction
  · omega
  · have qx : ((((ds.length : Int) == 0) = false ∧ (ds.length : Int) ≤ 8) ∧ ¬ ws.length < ds.length) ∧ (!within t 0 8) = false := by assumption
    simpa using qx.2
end Go.Proofs
