import Derived.Test.YtceiinlmblgdoaaGreatDoorZa
set_option linter.unusedSimpArgs false
set_option linter.unusedVariables false
namespace Go.Proofs
open Go.RowKit

set_option maxRecDepth 100000 in
set_option maxHeartbeats 1000000 in
theorem awake_any (w : World) : Calls Tryz.prog 4 #[] w fun e w' => e = .returned (.bool true) ∧ Below w.heap.size w w' := by
  have hA := Lib.hid fun W => areaTo_any 10 (-8) W
  rw [ex_area.1, ex_area.2] at hA
  have hrs : ∀ x ∈ exRs, x.c.size ≤ 9223372036854775807 := by decide
  have hms : ∀ x ∈ exMs, x.f.size ≤ 9223372036854775807 ∧ x.t.size ≤ 9223372036854775807 := by decide
  have hV := Lib.hid fun b1 b2 W (h : At 4 Rd.cs W (some ⟨b1, 0, none⟩) exRs ∧ At 4 Mv.cs W (some ⟨b2, 0, none⟩) exMs) => volumeAt_any 1000 2000 (some ⟨b1, 0, none⟩) (some ⟨b2, 0, none⟩) exRs exMs 2 1 buttS 4 W hrs h.1 hms h.2 (by decide)
  have hN := Lib.hid fun b1 b2 W (h : At 4 Rd.cs W (some ⟨b1, 0, none⟩) exRs ∧ At 4 Mv.cs W (some ⟨b2, 0, none⟩) exMs) => netOf_any 1000 2000 (some ⟨b1, 0, none⟩) (some ⟨b2, 0, none⟩) exRs exMs 2 1 buttS 0 10 W hrs h.1 hms h.2 (by decide)
  have hT := Lib.hid fun b W (h : At 3 St.cs W (some ⟨b, 0, none⟩) exSs) => volumeTo_any buttS 100 (some ⟨b, 0, none⟩) exSs 2 1 W (by decide) (by decide) h
  rw [ex_at] at hV
  rw [ex_net.1, ex_net.2] at hN
  rw [ex_to.1, ex_to.2] at hT
  have l1 : exRs.length = 2 := rfl
  have l2 : exMs.length = 1 := rfl
  have l3 : exSs.length = 2 := rfl
  rw [l1, l2] at hV hN
  rw [l3] at hT
  clear hrs hms l1 l2 l3
  dsimp only at hA hV hN hT
  go_enter Tryz.func4, Tryz.ntmps4
  go_wp2_with (first
    | (go_at_call 10; refine (hA.out _).mono ?_; rintro e w1 ⟨rfl, hb⟩; have hcc := gcell hb; have hff := gfrozen hb; have hbw := via (by go_grown : Below w.heap.size w _) hb; have hz := hb.size; (first | simp only [World.size_alloc] at hz | skip))
    | (go_at_call 12; refine (book_any _).mono ?_; rintro e w2 ⟨⟨b1, b2, rfl, hh⟩, hb⟩; have hcc := gcell hb; have hff := gfrozen hb; have hbw := via (by go_grown : Below w.heap.size w _) hb; have hz := hb.size; (first | simp only [World.size_alloc] at hz | skip); (first | (have hy : w1.heap.size < w2.heap.size := (by omega)) | skip); (first | (have hy : w3.heap.size < w2.heap.size := (by omega)) | skip); have hh' := Lib.hid hh; clear hh)
    | (go_at_call 11; refine (hV.out b1 b2 _ hh'.out).mono ?_; rintro e w3 ⟨rfl, hb⟩; have hcc := gcell hb; have hff := gfrozen hb; have hbw := via (by go_grown : Below w.heap.size w _) hb; have hz := hb.size; (first | simp only [World.size_alloc] at hz | skip); (first | (have hy : w1.heap.size < w3.heap.size := (by omega)) | skip))
    | (go_at_call 13; refine (hN.out b1 b2 _ hh'.out).mono ?_; rintro e w4 ⟨rfl, hb⟩; have hcc := gcell hb; have hff := gfrozen hb; have hbw := via (by go_grown : Below w.heap.size w _) hb; have hz := hb.size; (first | simp only [World.size_alloc] at hz | skip); (first | (have hy : w1.heap.size < w4.heap.size := (by omega)) | skip); (first | (have hy : w3.heap.size < w4.heap.size := (by omega)) | skip))
    | (go_at_call 15; refine (butt_any _).mono ?_; rintro e w5 ⟨⟨b5, rfl, hh⟩, hb⟩; have hcc := gcell hb; have hff := gfrozen hb; have hbw := via (by go_grown : Below w.heap.size w _) hb; have hz := hb.size; (first | simp only [World.size_alloc] at hz | skip); (first | (have hy : w1.heap.size < w5.heap.size := (by omega)) | skip); (first | (have hy : w3.heap.size < w5.heap.size := (by omega)) | skip); have hh' := Lib.hid hh; clear hh)
    | (go_at_call 14; refine (hT.out b5 _ hh'.out).mono ?_; rintro e w6 ⟨rfl, hb⟩; have hcc := gcell hb; have hff := gfrozen hb; have hbw := via (by go_grown : Below w.heap.size w _) hb; have hz := hb.size; (first | simp only [World.size_alloc] at hz | skip); (first | (have hy : w1.heap.size < w6.heap.size := (by omega)) | skip); (first | (have hy : w3.heap.size < w6.heap.size := (by omega)) | skip)))
  go_ret
  exact ⟨rfl, by go_grown⟩
end Go.Proofs
