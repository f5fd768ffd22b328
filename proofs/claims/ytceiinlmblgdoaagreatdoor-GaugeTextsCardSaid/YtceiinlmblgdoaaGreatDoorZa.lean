import Derived.Test.YtceiinlmblgdoaaGreatDoorZ
import Derived.Test.YtceiinlmblgdoaaGreatDoorP
set_option linter.unusedSimpArgs false
set_option linter.unusedVariables false
namespace Go.Proofs
open Go.RowKit

def buttS : ByteArray := { data := #[98, 117, 116, 116] }
def exRs : List Rd := [⟨buttS, 0, 500, 500⟩, ⟨buttS, 10, 480, 480⟩]
def exMs : List Mv := [⟨5, buttS, { data := #[] }, 5⟩]
def exSs : List St := [⟨0, 100, 100⟩, ⟨1000, 100, 100⟩]

theorem butt_any (w : World) : Calls Tryz.prog 15 #[] w fun e w' => (∃ b, e = .returned (.agg #[.string buttS, .int .i64 100, .slice (some ⟨b, 0, none⟩) 2 2]) ∧ At 3 St.cs w' (some ⟨b, 0, none⟩) exSs) ∧ Below w.heap.size w w' := by
  go_enter Tryz.func15, Tryz.ntmps15
  go_wp2
  refine bodyPost_ret (v := .agg #[.string buttS, .int .i64 100, .slice (some ⟨w.heap.size + 1, 0, none⟩) 2 2]) ?_ rfl ⟨⟨w.heap.size + 1, rfl, ?_⟩, by go_grown⟩
  · simp [results, Tryz.results15, go_sem, buttS]
  · intro k x hx
    refine ⟨_, 0, rfl, by simp, ?_⟩
    intro j v hv
    match k, x, hx with
    | 0, _, rfl => match j, hv with
      | 0, rfl => simp [go_sem]
      | 1, rfl => simp [go_sem]
      | 2, rfl => simp [go_sem]
    | 1, _, rfl => match j, hv with
      | 0, rfl => simp [go_sem]
      | 1, rfl => simp [go_sem]
      | 2, rfl => simp [go_sem]
theorem book_any (w : World) : Calls Tryz.prog 12 #[] w fun e w' => (∃ b1 b2, e = .returned (.agg #[.int .i64 1000, .int .i64 2000, .slice (some ⟨b1, 0, none⟩) 2 2, .slice (some ⟨b2, 0, none⟩) 1 1]) ∧ At 4 Rd.cs w' (some ⟨b1, 0, none⟩) exRs ∧ At 4 Mv.cs w' (some ⟨b2, 0, none⟩) exMs) ∧ Below w.heap.size w w' := by
  go_enter Tryz.func12, Tryz.ntmps12
  go_wp2
  refine bodyPost_ret (v := .agg #[.int .i64 1000, .int .i64 2000, .slice (some ⟨w.heap.size + 1, 0, none⟩) 2 2, .slice (some ⟨w.heap.size + 1 + 1, 0, none⟩) 1 1]) ?_ rfl ⟨⟨w.heap.size + 1, w.heap.size + 1 + 1, rfl, ?_, ?_⟩, by go_grown⟩
  · simp [results, Tryz.results12, go_sem]
  · intro k x hx
    refine ⟨_, 0, rfl, by simp, ?_⟩
    intro j v hv
    match k, x, hx with
    | 0, _, rfl => match j, hv with
      | 0, rfl => simp [go_sem, buttS]
      | 1, rfl => simp [go_sem]
      | 2, rfl => simp [go_sem]
      | 3, rfl => simp [go_sem]
    | 1, _, rfl => match j, hv with
      | 0, rfl => simp [go_sem, buttS]
      | 1, rfl => simp [go_sem]
      | 2, rfl => simp [go_sem]
      | 3, rfl => simp [go_sem]
  · intro k x hx
    refine ⟨_, 0, rfl, by simp, ?_⟩
    intro j v hv
    match k, x, hx with
    | 0, _, rfl => match j, hv with
      | 0, rfl => simp [go_sem]
      | 1, rfl => simp [go_sem, buttS]
      | 2, rfl => simp [go_sem]
      | 3, rfl => simp [go_sem]
theorem eqS_data (a b : ByteArray) : eqS a b = (a.data.toList == b.data.toList) := by unfold eqS; rw [ByteArray.toList_eq, ByteArray.toList_eq]
theorem endB_data (s : ByteArray) : endB s = (s.data.toList.isEmpty || nameB s.data.toList) := by unfold endB; rw [ByteArray.toList_eq]
theorem ex_area : areaV 10 (-8) = (8, 21) ∧ areaE 10 (-8) = 0 := by decide +kernel
theorem ex_at : volAtV 1000 2000 exRs exMs buttS 4 = ((492, 496), 0) := by decide +kernel
theorem ex_net : netOfV 1000 2000 exRs exMs buttS 0 10 = -5 ∧ netOfE 1000 2000 exRs exMs buttS 0 10 = 0 := by decide +kernel
theorem ex_to : volToV buttS.data.toList 100 exSs 1 = (0, 1) ∧ volToE buttS.data.toList 100 exSs 1 = 0 := by decide +kernel
end Go.Proofs
