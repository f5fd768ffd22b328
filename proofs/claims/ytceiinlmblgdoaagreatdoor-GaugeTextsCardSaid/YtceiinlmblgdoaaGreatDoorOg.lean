import Derived.Test.YtceiinlmblgdoaaGreatDoorRw
import Derived.Test.YtceiinlmblgdoaaGreatDoorOpen
import Derived.OpenShut
set_option linter.unusedSimpArgs false
set_option linter.unusedVariables false
namespace Go.Proofs
open Go.RowKit Go.WideShapes Go.ChangeShapes Go.Deep Go.Joins
section
variable {H : Type} {enc : TypeId × Value → H} {w : World} {spare : Nat → Bool} {held : Bool}
set_option maxRecDepth 100000 in
theorem open_range' {n : Nat} {c0 c1 : Value} {x : DataW H × List MemPlace} (h : DataW.trod enc Tryz.prog w 0 spare held n 23 [c0, c1] = some x) : ∃ a b : Int, c0 = .int .i64 a ∧ c1 = .int .i64 b ∧ (Lit.int .i64 a).wf = true ∧ (Lit.int .i64 b).wf = true := by
  obtain ⟨ys, m, -, -, -, hyl, hf⟩ := DataW.trod_struct Tryz.underlying23 h
  have k : Tryz.prog.cellsOf 3 = 1 := by kernel_rfl
  match ys, hyl with
  | [y0, y1], _ =>
    have g0 : DataW.trod enc Tryz.prog w 0 spare held m 3 ((List.drop 0 [c0, c1]).take (Tryz.prog.cellsOf 3)) = some y0 := hf 0 _ rfl
    have g1 : DataW.trod enc Tryz.prog w 0 spare held m 3 ((List.drop 1 [c0, c1]).take (Tryz.prog.cellsOf 3)) = some y1 := hf 1 _ rfl
    rw [k] at g0 g1
    simp only [List.drop_zero, List.drop_succ_cons, List.take_succ_cons, List.take_zero] at g0 g1
    obtain ⟨a, e0, -, wa⟩ := DataW.trod_int Tryz.underlying3 g0
    obtain ⟨b, e1, -, wb⟩ := DataW.trod_int Tryz.underlying3 g1
    simp only [List.cons.injEq, and_true] at e0 e1
    exact ⟨a, b, e0, e1, wa, wb⟩
set_option maxRecDepth 100000 in
theorem open_gx {v : Value} {d : DataW H} {p : List MemPlace} (hv : Value.okWide Tryz.prog w .any 0 25 v) (h : DataW.Trod enc Tryz.prog w 0 spare held 25 v d p) :
    ∃ (s : ByteArray) (a b c : Int), v = .agg #[.string s, .int .i64 a, .int .i64 b, .int .i64 c] ∧ s.size ≤ maxLen ∧ (Lit.int .i64 a).wf = true ∧ (Lit.int .i64 b).wf = true ∧ (Lit.int .i64 c).wf = true := by
  obtain ⟨cs, rfl, hsz⟩ := okWide_struct Tryz.underlying25 hv
  have h4 : cs.size = 4 := hsz.trans (by kernel_rfl)
  obtain ⟨l⟩ := cs
  match l, h4 with
  | [c0, c1, c2, c3], _ =>
    obtain ⟨fuel, hf'⟩ := h
    obtain ⟨ys, m, -, -, hlen, hyl, hf⟩ := DataW.trod_struct Tryz.underlying25 hf'
    have k9 : Tryz.prog.cellsOf 9 = 1 := by kernel_rfl
    have k3 : Tryz.prog.cellsOf 3 = 1 := by kernel_rfl
    have k23 : Tryz.prog.cellsOf 23 = 2 := by kernel_rfl
    match ys, hyl with
    | [y0, y1, y2], _ =>
      have g0 : DataW.trod enc Tryz.prog w 0 spare held m 9 ((List.drop 0 [c0, c1, c2, c3]).take (Tryz.prog.cellsOf 9)) = some y0 := hf 0 _ rfl
      have g1 : DataW.trod enc Tryz.prog w 0 spare held m 3 ((List.drop 1 [c0, c1, c2, c3]).take (Tryz.prog.cellsOf 3)) = some y1 := hf 1 _ rfl
      have g2 : DataW.trod enc Tryz.prog w 0 spare held m 23 ((List.drop 2 [c0, c1, c2, c3]).take (Tryz.prog.cellsOf 23)) = some y2 := hf 2 _ rfl
      rw [k9] at g0
      rw [k3] at g1
      rw [k23] at g2
      simp only [List.drop_zero, List.drop_succ_cons, List.take_succ_cons, List.take_zero] at g0 g1 g2
      obtain ⟨s, e0, -, hs⟩ := DataW.trod_string Tryz.underlying9 g0
      obtain ⟨a, e1, -, wa⟩ := DataW.trod_int Tryz.underlying3 g1
      obtain ⟨b, c, rfl, rfl, wb, wc⟩ := open_range' g2
      simp only [List.cons.injEq, and_true] at e0 e1
      subst e0 e1
      exact ⟨s, a, b, c, rfl, hs, wa, wb, wc⟩
end
end Go.Proofs
