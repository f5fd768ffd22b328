import Derived.Test.YtceiinlmblgdoaaSn
import Derived.Test.YtceiinlmblgdoaaDc
set_option linter.unusedSimpArgs false
set_option linter.unusedVariables false
namespace Go.Proofs
open Go.RowKit

/-- Where no two gaugings contradict none is blamed. -/
theorem blamed_none (l0 l1 : Int) (A A2 : Option Addr) (rs : List Rd) (ms : List Mv) (c c2 : Nat) (w : World)
    (hs : ∀ x ∈ rs, x.c.size ≤ 9223372036854775807) (hat : At 4 Rd.cs w A rs)
    (hs2 : ∀ x ∈ ms, x.f.size ≤ 9223372036854775807 ∧ x.t.size ≤ 9223372036854775807) (hat2 : At 4 Mv.cs w A2 ms)
    (hok : (checkB l0 l1 rs ms).2 = 0) (hno : allPairs l0 l1 rs ms = []) :
    Calls Try.prog 10 #[.agg #[.int .i64 l0, .int .i64 l1, .slice A rs.length c, .slice A2 ms.length c2]] w fun e w' =>
      (∃ A3 cap, e = .returned (.tuple #[.slice A3 0 cap, .int .i64 0])) ∧ Below w.heap.size w w' := by
  have hO := Lib.hid fun W hb => openBook_any l0 l1 A A2 rs ms c c2 W hs (At.below hat hb) hs2 (At.below hat2 hb)
  have hP := Lib.hid fun W hW => pairs_any l0 l1 A A2 rs ms c c2 W (right_of hok) (At.below hat hW) (At.below hat2 hW)
  rw [hok] at hO
  rw [hno] at hP
  clear hs hs2 hat hat2 hok hno
  have hsf : ∀ (W : World) (a : Addr) (f : Fn) (x y : Array Value), (store a (.func f x y)).run Try.prog W = stored Try.prog W a (.func f x y) .plain := fun W a f x y => run_store Try.prog W a _ _ rfl
  go_enter Try.func10, Try.ntmps10
  go_wp2_with (first | (go_at_call 16; refine (hO.out _ ?_).mono ?_; (· go_grown); rintro e w1 ⟨rfl, hb⟩; have hbw := via (by go_grown : Below w.heap.size w _) hb; have hsw := hbw.size) | (go_at_call 21; refine (hP.out _ ?_).mono ?_; (· go_grown); rintro e w2 ⟨⟨A3, cap, rfl, hat3⟩, hb⟩; have hbw := via (by go_grown : Below w.heap.size w _) hb; have hsw := hbw.size))
  go_loop [29] (fun i => i = .int .i64 0) (fun _ => 0)
  case atStart => rfl
  case round =>
    subst hrel
    go_wp2_with (first | (go_at_call 22; refine (sort_none _ _ _).mono ?_; rintro e w3 ⟨rfl, hb⟩; have hbw := via (by go_grown : Below w.heap.size w _) hb; have hsw := hbw.size; have B7 : w3.heap[w2.heap.size]? = some (.cells #[.slice none 0 0] 22 (0, 0)) := bk_keep hb (by (repeat (first | assumption | (refine bk_new _ _ ?_; (simp; done)) | refine bk_drew ?_ | refine bk_alloc ?_ _ | refine bk_set ?_ (by simp <;> omega) _))); have C7 := bk1 B7) | (go_at_call 23; refine (compact_none _ _ _).mono ?_; rintro e w4 ⟨rfl, hb⟩; have hbw := via (by go_grown : Below w.heap.size w _) hb; have hsw := hbw.size; replace B7 := bk_keep hb B7; replace C7 := bk1 B7))
    refine wp_world ?_
    intro w5 hW_w5
    have hb_w5 : Below w.heap.size w w5 := by rw [hW_w5]; go_grown
    have B12 : w5.heap[w4.heap.size + 1]? = some (.cells #[.int .u64 0] 69 (0, 0)) := by rw [hW_w5]; (repeat (first | assumption | (refine bk_new _ _ ?_; (simp; done)) | refine bk_drew ?_ | refine bk_alloc ?_ _ | refine bk_set ?_ (by simp <;> omega) _))
    have B10 : w5.heap[w4.heap.size]? = some (.cells #[.func (.func 24) #[] #[.pointer (some ⟨w2.heap.size, 0, none⟩)]] 71 (0, 0)) := by rw [hW_w5]; (repeat (first | assumption | (refine bk_new _ _ ?_; (simp; done)) | refine bk_drew ?_ | refine bk_alloc ?_ _ | refine bk_set ?_ (by simp <;> omega) _))
    have B7' : w5.heap[w2.heap.size]? = some (.cells #[.slice none 0 0] 22 (0, 0)) := by rw [hW_w5]; exact bk_alloc (bk_alloc (bk_here B7 _ rfl) _) _
    have hs_w5 : w4.heap.size + 2 ≤ w5.heap.size := by rw [hW_w5]; simp
    clear hW_w5 B7 C7
    have C12 := bk1 B12
    have C10 := bk1 B10
    have C7 := bk1 B7'
    go_loop [11, 12] (fun x y => x = .int .u64 0 ∧ y = .pointer (some ⟨w4.heap.size + 1, 0, none⟩)) (fun _ _ => 0)
    case atStart => exact ⟨rfl, rfl⟩
    case round =>
      obtain ⟨rfl, rfl⟩ := hrel
      go_wp2_with (first | (go_at_call 26; refine (containsFunc_none _ _ _ _).mono ?_; rintro e w6 ⟨rfl, hb⟩; replace hb_w5 := via hb_w5 hb; replace B12 := bk_keep hb B12; replace B7' := bk_keep hb B7'; replace C12 := bk1 B12; replace C7 := bk1 B7') | (go_at_call 28; refine (ones_zero _).mono ?_; rintro e w7 ⟨rfl, hb⟩; replace hb_w5 := via hb_w5 hb; replace B12 := bk_keep hb B12; replace B7' := bk_keep hb B7'; replace C12 := bk1 B12; replace C7 := bk1 B7'))
      go_loop [14, 74] (fun o i => o = .slice none 0 0 ∧ i = .int .i64 0) (fun _ _ => 0)
      case atStart => exact ⟨rfl, rfl⟩
      case round =>
        obtain ⟨rfl, rfl⟩ := hrel
        go_wp2
        refine bodyPost_ret (v := .tuple #[.slice none 0 0, .int .i64 0]) ?_ rfl ⟨⟨none, 0, rfl⟩, ?_⟩
        · simp [results, Try.results10, go_sem]
        · go_grown
end Go.Proofs
