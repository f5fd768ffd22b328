import Derived.Test.YtmnjoamkaapjcaaGreatMg19
import Derived.Test.YtmnjoamkaapjcaaGreatMg16
set_option linter.unusedSimpArgs false
set_option linter.unusedVariables false
namespace Go.Proofs
open Go.RowKit

def buttS : ByteArray := { data := #[98, 117, 116, 116] }
def exRs : List Rd := [⟨buttS, 0, 500, 500⟩, ⟨buttS, 10, 480, 480⟩]
def exMs : List Mv := [⟨5, buttS, { data := #[] }, 5⟩]
def exSs : List St := [⟨0, 100, 100⟩, ⟨1000, 100, 100⟩]

theorem butt_any (w : World) : Calls Tryz.prog 23 #[] w fun e w' => (∃ b, e = .returned (.agg #[.string buttS, .int .i64 100, .slice (some ⟨b, 0, none⟩) 2 2]) ∧ At 3 St.cs w' (some ⟨b, 0, none⟩) exSs) ∧ Below w.heap.size w w' := by
  go_enter Tryz.func23, Tryz.ntmps23
  go_wp2
  refine bodyPost_ret (v := .agg #[.string buttS, .int .i64 100, .slice (some ⟨w.heap.size + 1, 0, none⟩) 2 2]) ?_ rfl ⟨⟨w.heap.size + 1, rfl, ?_⟩, by go_grown⟩
  · simp [results, Tryz.results23, go_sem, buttS]
  · intro k x hx
    refine ⟨_, 0, rfl, by simp, ?_⟩
    intro j v hv
    match k, x, hx with
    | 0, _, rfl => match j, hv with
      | 0, rfl => simp [go_sem]
      | 1, rfl => simp [go_sem]
      | 2, rfl => simp [go_sem]
    | 1, _, rfl => match j, hv with
      | 0, rfl => simp [go_sem]
      | 1, rfl => simp [go_sem]
      | 2, rfl => simp [go_sem]
theorem book_any (w : World) : Calls Tryz.prog 20 #[] w fun e w' => (∃ b1 b2, e = .returned (.agg #[.int .i64 1000, .int .i64 2000, .slice (some ⟨b1, 0, none⟩) 2 2, .slice (some ⟨b2, 0, none⟩) 1 1]) ∧ At 4 Rd.cs w' (some ⟨b1, 0, none⟩) exRs ∧ At 4 Mv.cs w' (some ⟨b2, 0, none⟩) exMs) ∧ Below w.heap.size w w' := by
  go_enter Tryz.func20, Tryz.ntmps20
  go_wp2
  refine bodyPost_ret (v := .agg #[.int .i64 1000, .int .i64 2000, .slice (some ⟨w.heap.size + 1, 0, none⟩) 2 2, .slice (some ⟨w.heap.size + 1 + 1, 0, none⟩) 1 1]) ?_ rfl ⟨⟨w.heap.size + 1, w.heap.size + 1 + 1, rfl, ?_, ?_⟩, by go_grown⟩
  · simp [results, Tryz.results20, go_sem]
  · intro k x hx
    refine ⟨_, 0, rfl, by simp, ?_⟩
    intro j v hv
    match k, x, hx with
    | 0, _, rfl => match j, hv with
      | 0, rfl => simp [go_sem, buttS]
      | 1, rfl => simp [go_sem]
      | 2, rfl => simp [go_sem]
      | 3, rfl => simp [go_sem]
    | 1, _, rfl => match j, hv with
      | 0, rfl => simp [go_sem, buttS]
      | 1, rfl => simp [go_sem]
      | 2, rfl => simp [go_sem]
      | 3, rfl => simp [go_sem]
  · intro k x hx
    refine ⟨_, 0, rfl, by simp, ?_⟩
    intro j v hv
    match k, x, hx with
    | 0, _, rfl => match j, hv with
      | 0, rfl => simp [go_sem]
      | 1, rfl => simp [go_sem, buttS]
      | 2, rfl => simp [go_sem]
      | 3, rfl => simp [go_sem]
theorem eqS_data (a b : ByteArray) : eqS a b = (a.data.toList == b.data.toList) := by unfold eqS; rw [ByteArray.toList_eq, ByteArray.toList_eq]
theorem endB_data (s : ByteArray) : endB s = (s.data.toList.isEmpty || nameB s.data.toList) := by unfold endB; rw [ByteArray.toList_eq]
theorem ex_area : areaV 10 (-8) = (8, 21) ∧ areaE 10 (-8) = 0 := by decide +kernel
theorem ex_at : volAtV 1000 2000 exRs exMs buttS 4 = ((492, 496), 0) := by decide +kernel
theorem ex_net : netOfV 1000 2000 exRs exMs buttS 0 10 = -5 ∧ netOfE 1000 2000 exRs exMs buttS 0 10 = 0 := by decide +kernel
theorem ex_to : volToV buttS.data.toList 100 exSs 1 = (0, 1) ∧ volToE buttS.data.toList 100 exSs 1 = 0 := by decide +kernel
end Go.Proofs

set_option linter.unusedSimpArgs false
set_option linter.unusedVariables false
namespace Go.Proofs
open Go.RowKit

set_option maxRecDepth 100000 in
set_option maxHeartbeats 1000000 in
theorem awake_any (w : World) : Calls Tryz.prog 4 #[] w fun e w' => e = .returned (.bool true) ∧ Below w.heap.size w w' := by
  have hA := Lib.hid fun W => areaTo_any 10 (-8) W
  rw [ex_area.1, ex_area.2] at hA
  have hrs : ∀ x ∈ exRs, x.c.size ≤ 9223372036854775807 := by decide
  have hms : ∀ x ∈ exMs, x.f.size ≤ 9223372036854775807 ∧ x.t.size ≤ 9223372036854775807 := by decide
  have hV := Lib.hid fun b1 b2 W (h : At 4 Rd.cs W (some ⟨b1, 0, none⟩) exRs ∧ At 4 Mv.cs W (some ⟨b2, 0, none⟩) exMs) => volumeAt_any 1000 2000 (some ⟨b1, 0, none⟩) (some ⟨b2, 0, none⟩) exRs exMs 2 1 buttS 4 W hrs h.1 hms h.2 (by decide)
  have hN := Lib.hid fun b1 b2 W (h : At 4 Rd.cs W (some ⟨b1, 0, none⟩) exRs ∧ At 4 Mv.cs W (some ⟨b2, 0, none⟩) exMs) => netOf_any 1000 2000 (some ⟨b1, 0, none⟩) (some ⟨b2, 0, none⟩) exRs exMs 2 1 buttS 0 10 W hrs h.1 hms h.2 (by decide)
  have hT := Lib.hid fun b W (h : At 3 St.cs W (some ⟨b, 0, none⟩) exSs) => volumeTo_any buttS 100 (some ⟨b, 0, none⟩) exSs 2 1 W (by decide) (by decide) h
  rw [ex_at] at hV
  rw [ex_net.1, ex_net.2] at hN
  rw [ex_to.1, ex_to.2] at hT
  have l1 : exRs.length = 2 := rfl
  have l2 : exMs.length = 1 := rfl
  have l3 : exSs.length = 2 := rfl
  rw [l1, l2] at hV hN
  rw [l3] at hT
  clear hrs hms l1 l2 l3
  dsimp only at hA hV hN hT
  go_enter Tryz.func4, Tryz.ntmps4
  go_wp2_with (first
    | (go_at_call 18; refine (hA.out _).mono ?_; rintro e w1 ⟨rfl, hb⟩; have hcc := gcell hb; have hff := gfrozen hb; have hbw := via (by go_grown : Below w.heap.size w _) hb; have hz := hb.size; (first | simp only [World.size_alloc] at hz | skip))
    | (go_at_call 20; refine (book_any _).mono ?_; rintro e w2 ⟨⟨b1, b2, rfl, hh⟩, hb⟩; have hcc := gcell hb; have hff := gfrozen hb; have hbw := via (by go_grown : Below w.heap.size w _) hb; have hz := hb.size; (first | simp only [World.size_alloc] at hz | skip); (first | (have hy : w1.heap.size < w2.heap.size := (by omega)) | skip); (first | (have hy : w3.heap.size < w2.heap.size := (by omega)) | skip); have hh' := Lib.hid hh; clear hh)
    | (go_at_call 19; refine (hV.out b1 b2 _ hh'.out).mono ?_; rintro e w3 ⟨rfl, hb⟩; have hcc := gcell hb; have hff := gfrozen hb; have hbw := via (by go_grown : Below w.heap.size w _) hb; have hz := hb.size; (first | simp only [World.size_alloc] at hz | skip); (first | (have hy : w1.heap.size < w3.heap.size := (by omega)) | skip))
    | (go_at_call 21; refine (hN.out b1 b2 _ hh'.out).mono ?_; rintro e w4 ⟨rfl, hb⟩; have hcc := gcell hb; have hff := gfrozen hb; have hbw := via (by go_grown : Below w.heap.size w _) hb; have hz := hb.size; (first | simp only [World.size_alloc] at hz | skip); (first | (have hy : w1.heap.size < w4.heap.size := (by omega)) | skip); (first | (have hy : w3.heap.size < w4.heap.size := (by omega)) | skip))
    | (go_at_call 23; refine (butt_any _).mono ?_; rintro e w5 ⟨⟨b5, rfl, hh⟩, hb⟩; have hcc := gcell hb; have hff := gfrozen hb; have hbw := via (by go_grown : Below w.heap.size w _) hb; have hz := hb.size; (first | simp only [World.size_alloc] at hz | skip); (first | (have hy : w1.heap.size < w5.heap.size := (by omega)) | skip); (first | (have hy : w3.heap.size < w5.heap.size := (by omega)) | skip); have hh' := Lib.hid hh; clear hh)
    | (go_at_call 22; refine (hT.out b5 _ hh'.out).mono ?_; rintro e w6 ⟨rfl, hb⟩; have hcc := gcell hb; have hff := gfrozen hb; have hbw := via (by go_grown : Below w.heap.size w _) hb; have hz := hb.size; (first | simp only [World.size_alloc] at hz | skip); (first | (have hy : w1.heap.size < w6.heap.size := (by omega)) | skip); (first | (have hy : w3.heap.size < w6.heap.size := (by omega)) | skip)))
  go_ret
  exact ⟨rfl, by go_grown⟩
end Go.Proofs
