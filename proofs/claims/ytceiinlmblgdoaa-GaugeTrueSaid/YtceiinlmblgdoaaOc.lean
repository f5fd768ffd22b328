import Derived.Test.YtceiinlmblgdoaaGt1
import Derived.Test.YtceiinlmblgdoaaOpen
import Derived.OpenShut
set_option linter.unusedSimpArgs false
set_option linter.unusedVariables false
namespace Go.Proofs
open Go.RowKit Go.WideShapes Go.ChangeShapes Go.Deep Go.Joins
section
variable {H : Type} {enc : TypeId × Value → H} {w : World} {spare : Nat → Bool} {held : Bool}
set_option maxRecDepth 100000 in
theorem open_arr2 {n : Nat} {cs : List Value} {x : DataW H × List MemPlace} (hl : cs.length = 2) (h : DataW.trod enc Try.prog w 0 spare held n 37 cs = some x) : ∃ a b : Int, cs = [.int .i64 a, .int .i64 b] := by
  obtain ⟨xs, m, _, hx, _, hlen, hg⟩ := DataW.trod_array Try.underlying37 h
  have k : Try.prog.cellsOf 3 = 1 := by kernel_rfl
  match cs, hl with
  | [c0, c1], _ =>
    match xs, hlen with
    | [y0, y1], _ =>
      have g0 := hg 0 (by omega)
      have g1 := hg 1 (by omega)
      rw [k] at g0 g1
      simp only [Nat.zero_mul, Nat.one_mul, List.drop_zero, List.drop_succ_cons, List.take_succ_cons, List.take_zero] at g0 g1
      obtain ⟨a, e0, -, wa⟩ := DataW.trod_int Try.underlying3 g0
      obtain ⟨b, e1, -, wb⟩ := DataW.trod_int Try.underlying3 g1
      simp only [List.cons.injEq, and_true] at e0 e1
      subst e0 e1
      exact ⟨a, b, rfl⟩
set_option maxRecDepth 100000 in
theorem open_ints' {fuel : Nat} {v : Value} {y : DataW H × List MemPlace} (h : DataW.trod enc Try.prog w 0 spare held fuel 22 [v] = some y) :
    ∃ (A : Option Addr) (l : List Int) (c : Nat), v = .slice A l.length c ∧ At 1 Ic w A l := by
  have k : Try.prog.cellsOf 3 = 1 := by kernel_rfl
  rcases open_slice Try.underlying22 h with ⟨hc, -⟩ | ⟨a, len, cap, m, n, D, Pl, hc, -, hl, hm, hmm, -, hf⟩
  · simp only [List.cons.injEq, and_true] at hc
    exact ⟨none, [], 0, hc, fun k x hx => by simp at hx⟩
  · simp only [List.cons.injEq, and_true] at hc
    have hlm : len ≤ m := by rw [hmm]; split <;> omega
    obtain ⟨l, hll, hat, -⟩ := at_of_cells (cs := Ic) (sz := 1) (Q := fun _ => True) (W := w) (a := a) (fun _ => rfl) (by omega) len (fun i hi => by
      obtain ⟨cs', hcs, ht⟩ := hf i (by omega)
      rw [k] at hcs
      obtain ⟨-, hcl, hce⟩ := World.cells?_some hcs
      obtain ⟨x, e0, -, -⟩ := DataW.trod_int Try.underlying3 ht
      subst e0
      refine ⟨x, trivial, ?_⟩
      intro j v hv
      match j, hv with
      | 0, rfl => have := hce 0 (by omega); rw [Go.Deep.add_add] at this; exact this)
    subst hll
    exact ⟨some a, l, cap, hc, hat⟩
set_option maxRecDepth 100000 in
theorem open_pairs' {fuel : Nat} {v : Value} {y : DataW H × List MemPlace} (h : DataW.trod enc Try.prog w 0 spare held fuel 23 [v] = some y) :
    ∃ (A : Option Addr) (l : List (Int × Int)) (c : Nat), v = .slice A l.length c ∧ At 2 Wc w A l := by
  have k : Try.prog.cellsOf 37 = 2 := by kernel_rfl
  rcases open_slice Try.underlying23 h with ⟨hc, -⟩ | ⟨a, len, cap, m, n, D, Pl, hc, -, hl, hm, hmm, -, hf⟩
  · simp only [List.cons.injEq, and_true] at hc
    exact ⟨none, [], 0, hc, fun k x hx => by simp at hx⟩
  · simp only [List.cons.injEq, and_true] at hc
    have hlm : len ≤ m := by rw [hmm]; split <;> omega
    obtain ⟨l, hll, hat, -⟩ := at_of_cells (cs := Wc) (sz := 2) (Q := fun _ => True) (W := w) (a := a) (fun _ => rfl) (by omega) len (fun i hi => by
      obtain ⟨cs', hcs, ht⟩ := hf i (by omega)
      rw [k] at hcs
      obtain ⟨-, hcl, hce⟩ := World.cells?_some hcs
      obtain ⟨x, z, e0⟩ := open_arr2 hcl ht
      subst e0
      refine ⟨(x, z), trivial, ?_⟩
      intro j v hv
      have := hce j (by match j, hv with | 0, _ => omega | 1, _ => omega)
      rw [Go.Deep.add_add] at this
      exact this.trans hv)
    subst hll
    exact ⟨some a, l, cap, hc, hat⟩
set_option maxRecDepth 100000 in
theorem open_cellar {v : Value} {d : DataW H} {p : List MemPlace} (hv : Value.okWide Try.prog w .any 0 25 v) (h : DataW.Trod enc Try.prog w 0 spare held 25 v d p) :
    ∃ (V L M : Int) (A A2 : Option Addr) (ds : List Int) (ws : List (Int × Int)) (c c2 : Nat), v = .agg #[.int .i64 V, .int .i64 L, .int .i64 M, .slice A ds.length c, .slice A2 ws.length c2] ∧ At 1 Ic w A ds ∧ At 2 Wc w A2 ws := by
  obtain ⟨cs, rfl, hsz⟩ := okWide_struct Try.underlying25 hv
  have h4 : cs.size = 5 := hsz.trans (by kernel_rfl)
  obtain ⟨l⟩ := cs
  match l, h4 with
  | [c0, c1, c2, c3, c4], _ =>
    obtain ⟨fuel, hf'⟩ := h
    obtain ⟨ys, m, -, -, hlen, hyl, hf⟩ := DataW.trod_struct Try.underlying25 hf'
    have k3 : Try.prog.cellsOf 3 = 1 := by kernel_rfl
    have k22 : Try.prog.cellsOf 22 = 1 := by kernel_rfl
    have k23 : Try.prog.cellsOf 23 = 1 := by kernel_rfl
    match ys, hyl with
    | [y0, y1, y2, y3, y4], _ =>
      have g0 : DataW.trod enc Try.prog w 0 spare held m 3 ((List.drop 0 [c0, c1, c2, c3, c4]).take (Try.prog.cellsOf 3)) = some y0 := hf 0 _ rfl
      have g1 : DataW.trod enc Try.prog w 0 spare held m 3 ((List.drop 1 [c0, c1, c2, c3, c4]).take (Try.prog.cellsOf 3)) = some y1 := hf 1 _ rfl
      have g2 : DataW.trod enc Try.prog w 0 spare held m 3 ((List.drop 2 [c0, c1, c2, c3, c4]).take (Try.prog.cellsOf 3)) = some y2 := hf 2 _ rfl
      have g3 : DataW.trod enc Try.prog w 0 spare held m 22 ((List.drop 3 [c0, c1, c2, c3, c4]).take (Try.prog.cellsOf 22)) = some y3 := hf 3 _ rfl
      have g4 : DataW.trod enc Try.prog w 0 spare held m 23 ((List.drop 4 [c0, c1, c2, c3, c4]).take (Try.prog.cellsOf 23)) = some y4 := hf 4 _ rfl
      rw [k3] at g0 g1 g2
      rw [k22] at g3
      rw [k23] at g4
      simp only [List.drop_zero, List.drop_succ_cons, List.take_succ_cons, List.take_zero] at g0 g1 g2 g3 g4
      obtain ⟨V, e0, -, -⟩ := DataW.trod_int Try.underlying3 g0
      obtain ⟨L, e1, -, -⟩ := DataW.trod_int Try.underlying3 g1
      obtain ⟨M, e2, -, -⟩ := DataW.trod_int Try.underlying3 g2
      obtain ⟨A, ds, c, rfl, hat⟩ := open_ints' g3
      obtain ⟨A2, ws, c', rfl, hat2⟩ := open_pairs' g4
      simp only [List.cons.injEq, and_true] at e0 e1 e2
      subst e0 e1 e2
      exact ⟨V, L, M, A, A2, ds, ws, c, c', rfl, hat, hat2⟩
set_option maxRecDepth 100000 in
theorem open_rng {v : Value} {d : DataW H} {p : List MemPlace} (hv : Value.okWide Try.prog w .any 0 27 v) (h : DataW.Trod enc Try.prog w 0 spare held 27 v d p) :
    ∃ a b : Int, v = .agg #[.int .i64 a, .int .i64 b] := by
  obtain ⟨v0, v1, y0, y1, n, rfl, -, -, t0, t1⟩ := open_agg2 Try.underlying27 (by kernel_rfl) (by kernel_rfl) hv h
  obtain ⟨a, e0, -, -⟩ := DataW.trod_int Try.underlying3 t0
  obtain ⟨b, e1, -, -⟩ := DataW.trod_int Try.underlying3 t1
  simp only [List.cons.injEq, and_true] at e0 e1
  subst e0 e1
  exact ⟨a, b, rfl⟩
end
end Go.Proofs
