import Derived.Test.YtjfdjjekonkgjaaOp2
set_option linter.unusedSimpArgs false
set_option linter.unusedVariables false
namespace Go.Proofs
open Go.RowKit Go.WideShapes Go.ChangeShapes Go.Deep Go.Joins
section
variable {H : Type} {enc : TypeId × Value → H} {w : World} {spare : Nat → Bool} {held : Bool}
set_option maxRecDepth 100000 in
theorem open_ask {v : Value} {d : DataW H} {p : List MemPlace} (hv : Value.okWide Try.prog w .any 0 102 v) (h : DataW.Trod enc Try.prog w 0 spare held 102 v d p) :
    ∃ (a : Int) (s : ByteArray) (b : Int), v = .agg #[.int .i64 a, .string s, .int .i64 b] ∧ (Lit.int .i64 a).wf = true ∧ (Lit.int .i64 b).wf = true ∧ s.size ≤ maxLen := by
  obtain ⟨v0, v1, v2, y0, y1, y2, n, rfl, -, -, t0, t1, t2⟩ := open_agg3 Try.underlying102 (by kernel_rfl) (by kernel_rfl) hv h
  obtain ⟨a, e0, -, wa⟩ := DataW.trod_int Try.underlying3 t0
  obtain ⟨s, e1, -, hs⟩ := DataW.trod_string Try.underlying9 t1
  obtain ⟨b, e2, -, wb⟩ := DataW.trod_int Try.underlying3 t2
  simp only [List.cons.injEq, and_true] at e0 e1 e2
  subst e0 e1 e2
  exact ⟨a, s, b, rfl, wa, wb, hs⟩
end
end Go.Proofs
