import Derived.Test.YtmnjoamkaapjcaaGreatMg21
import Derived.OpenShut
import Derived.Test.YtmnjoamkaapjcaaGreatMg38
set_option linter.unusedSimpArgs false
set_option linter.unusedVariables false
namespace Go.Proofs
open Go.RowKit Go.WideShapes Go.ChangeShapes Go.Deep Go.Joins
section
variable {H : Type} {enc : TypeId × Value → H} {w : World} {spare : Nat → Bool} {held : Bool}
set_option maxRecDepth 100000 in
theorem open_two {v : Value} {d : DataW H} {p : List MemPlace} (hv : Value.okWide Tryz.prog w .any 0 55 v) (h : DataW.Trod enc Tryz.prog w 0 spare held 55 v d p) :
    ∃ a b : Int, v = .agg #[.int .i64 a, .int .i64 b] ∧ (Lit.int .i64 a).wf = true ∧ (Lit.int .i64 b).wf = true := by
  obtain ⟨cs, rfl, hsz⟩ : ∃ cs, v = .agg cs ∧ cs.size = Tryz.prog.cellsOf 55 := by
    simp only [Value.okWide, Tryz.underlying55] at hv
    obtain ⟨cs, h1, h2, _⟩ := hv
    exact ⟨cs, h1, h2⟩
  have h2 : cs.size = 2 := hsz.trans (by kernel_rfl)
  obtain ⟨l⟩ := cs
  match l, h2 with
  | [c0, c1], _ =>
    obtain ⟨fuel, hf⟩ := h
    obtain ⟨xs, m, _, hx, _, hlen, hg⟩ := DataW.trod_array Tryz.underlying55 hf
    have k : Tryz.prog.cellsOf 3 = 1 := by kernel_rfl
    match xs, hlen with
    | [y0, y1], _ =>
      have g0 := hg 0 (by omega)
      have g1 := hg 1 (by omega)
      rw [k] at g0 g1
      simp only [Value.cells, Nat.zero_mul, Nat.one_mul, List.drop_zero, List.drop_succ_cons, List.take_succ_cons, List.take_zero] at g0 g1
      obtain ⟨a, e0, -, wa⟩ := DataW.trod_int Tryz.underlying3 g0
      obtain ⟨b, e1, -, wb⟩ := DataW.trod_int Tryz.underlying3 g1
      simp only [List.cons.injEq, and_true] at e0 e1
      subst e0 e1
      exact ⟨a, b, rfl, wa, wb⟩
set_option maxRecDepth 100000 in
theorem open_range {n : Nat} {c0 c1 : Value} {x : DataW H × List MemPlace} (h : DataW.trod enc Tryz.prog w 0 spare held n 23 [c0, c1] = some x) : ∃ a b : Int, c0 = .int .i64 a ∧ c1 = .int .i64 b ∧ (Lit.int .i64 a).wf = true ∧ (Lit.int .i64 b).wf = true := by
  obtain ⟨ys, m, -, -, -, hyl, hf⟩ := DataW.trod_struct Tryz.underlying23 h
  have k : Tryz.prog.cellsOf 3 = 1 := by kernel_rfl
  match ys, hyl with
  | [y0, y1], _ =>
    have g0 : DataW.trod enc Tryz.prog w 0 spare held m 3 ((List.drop 0 [c0, c1]).take (Tryz.prog.cellsOf 3)) = some y0 := hf 0 _ rfl
    have g1 : DataW.trod enc Tryz.prog w 0 spare held m 3 ((List.drop 1 [c0, c1]).take (Tryz.prog.cellsOf 3)) = some y1 := hf 1 _ rfl
    rw [k] at g0 g1
    simp only [List.drop_zero, List.drop_succ_cons, List.take_succ_cons, List.take_zero] at g0 g1
    obtain ⟨a, e0, -, wa⟩ := DataW.trod_int Tryz.underlying3 g0
    obtain ⟨b, e1, -, wb⟩ := DataW.trod_int Tryz.underlying3 g1
    simp only [List.cons.injEq, and_true] at e0 e1
    exact ⟨a, b, e0, e1, wa, wb⟩
set_option maxRecDepth 100000 in
theorem open_rd {n : Nat} {cs : List Value} {x : DataW H × List MemPlace} (h : DataW.trod enc Tryz.prog w 0 spare held n 62 cs = some x) : ∃ r : Rd, cs = r.cs ∧ r.c.size ≤ maxLen := by
  obtain ⟨ys, m, -, -, hlen, hyl, hf⟩ := DataW.trod_struct Tryz.underlying62 h
  have k4 : Tryz.prog.cellsOf 62 = 4 := by kernel_rfl
  have k3 : Tryz.prog.cellsOf 3 = 1 := by kernel_rfl
  have k9 : Tryz.prog.cellsOf 9 = 1 := by kernel_rfl
  have k24 : Tryz.prog.cellsOf 23 = 2 := by kernel_rfl
  rw [k4] at hlen
  match cs, hlen with
  | [c0, c1, c2, c3], _ =>
    match ys, hyl with
    | [y0, y1, y2], _ =>
      have g0 : DataW.trod enc Tryz.prog w 0 spare held m 9 ((List.drop 0 [c0, c1, c2, c3]).take (Tryz.prog.cellsOf 9)) = some y0 := hf 0 _ rfl
      have g1 : DataW.trod enc Tryz.prog w 0 spare held m 3 ((List.drop 1 [c0, c1, c2, c3]).take (Tryz.prog.cellsOf 3)) = some y1 := hf 1 _ rfl
      have g2 : DataW.trod enc Tryz.prog w 0 spare held m 23 ((List.drop 2 [c0, c1, c2, c3]).take (Tryz.prog.cellsOf 23)) = some y2 := hf 2 _ rfl
      rw [k9] at g0
      rw [k3] at g1
      rw [k24] at g2
      simp only [List.drop_zero, List.drop_succ_cons, List.take_succ_cons, List.take_zero] at g0 g1 g2
      obtain ⟨s, e0, -, hs⟩ := DataW.trod_string Tryz.underlying9 g0
      obtain ⟨d, e1, -, -⟩ := DataW.trod_int Tryz.underlying3 g1
      obtain ⟨a, b, e2, e3, -, -⟩ := open_range g2
      simp only [List.cons.injEq, and_true] at e0 e1
      subst e0 e1 e2 e3
      exact ⟨⟨s, d, a, b⟩, rfl, hs⟩
set_option maxRecDepth 100000 in
theorem open_mv {n : Nat} {cs : List Value} {x : DataW H × List MemPlace} (h : DataW.trod enc Tryz.prog w 0 spare held n 64 cs = some x) : ∃ r : Mv, cs = r.cs ∧ r.f.size ≤ maxLen ∧ r.t.size ≤ maxLen := by
  obtain ⟨ys, m, -, -, hlen, hyl, hf⟩ := DataW.trod_struct Tryz.underlying64 h
  have k4 : Tryz.prog.cellsOf 64 = 4 := by kernel_rfl
  have k3 : Tryz.prog.cellsOf 3 = 1 := by kernel_rfl
  have k9 : Tryz.prog.cellsOf 9 = 1 := by kernel_rfl
  rw [k4] at hlen
  match cs, hlen with
  | [c0, c1, c2, c3], _ =>
    match ys, hyl with
    | [y0, y1, y2, y3], _ =>
      have g0 : DataW.trod enc Tryz.prog w 0 spare held m 3 ((List.drop 0 [c0, c1, c2, c3]).take (Tryz.prog.cellsOf 3)) = some y0 := hf 0 _ rfl
      have g1 : DataW.trod enc Tryz.prog w 0 spare held m 9 ((List.drop 1 [c0, c1, c2, c3]).take (Tryz.prog.cellsOf 9)) = some y1 := hf 1 _ rfl
      have g2 : DataW.trod enc Tryz.prog w 0 spare held m 9 ((List.drop 2 [c0, c1, c2, c3]).take (Tryz.prog.cellsOf 9)) = some y2 := hf 2 _ rfl
      have g3 : DataW.trod enc Tryz.prog w 0 spare held m 3 ((List.drop 3 [c0, c1, c2, c3]).take (Tryz.prog.cellsOf 3)) = some y3 := hf 3 _ rfl
      rw [k3] at g0 g3
      rw [k9] at g1 g2
      simp only [List.drop_zero, List.drop_succ_cons, List.take_succ_cons, List.take_zero] at g0 g1 g2 g3
      obtain ⟨d, e0, -, -⟩ := DataW.trod_int Tryz.underlying3 g0
      obtain ⟨f, e1, -, hs⟩ := DataW.trod_string Tryz.underlying9 g1
      obtain ⟨t, e2, -, hs2⟩ := DataW.trod_string Tryz.underlying9 g2
      obtain ⟨v, e3, -, -⟩ := DataW.trod_int Tryz.underlying3 g3
      simp only [List.cons.injEq, and_true] at e0 e1 e2 e3
      subst e0 e1 e2 e3
      exact ⟨⟨d, f, t, v⟩, rfl, hs, hs2⟩
/-- A slice of structs of any cells, opened. -/
theorem open_flat {α : Type} {t e sz : Nat} {cs : α → List Value} {Q : α → Prop} {fuel : Nat} {v : Value} {y : DataW H × List MemPlace} (ht : Tryz.prog.underlying t = some (.slice e)) (hC : Tryz.prog.cellsOf e = sz) (h0 : 0 < sz) (hsz : ∀ x, (cs x).length = sz)
    (ho : ∀ {n : Nat} {l : List Value} {x : DataW H × List MemPlace}, DataW.trod enc Tryz.prog w 0 spare held n e l = some x → ∃ r : α, l = cs r ∧ Q r)
    (h : DataW.trod enc Tryz.prog w 0 spare held fuel t [v] = some y) :
    ∃ (A : Option Addr) (rs : List α) (c : Nat), v = .slice A rs.length c ∧ At sz cs w A rs ∧ rs.length ≤ c ∧ c ≤ maxLen ∧ (A = none → c = 0) ∧ ∀ x ∈ rs, Q x := by
  rcases open_slice ht h with ⟨hc, -⟩ | ⟨a, len, cap, m, n, D, Pl, hc, -, hl, hm, hmm, -, hf⟩
  · simp only [List.cons.injEq, and_true] at hc
    exact ⟨none, [], 0, hc, fun k x hx => by simp at hx, Nat.le_refl _, by decide, fun _ => rfl, fun x hx => by simp at hx⟩
  · simp only [List.cons.injEq, and_true] at hc
    have hlm : len ≤ m := by rw [hmm]; split <;> omega
    obtain ⟨l, hll, hat, hq⟩ := at_of_cells (cs := cs) (sz := sz) (Q := Q) (W := w) (a := a) hsz h0 len (fun i hi => by
      obtain ⟨cs', hcs, htr⟩ := hf i (by omega)
      obtain ⟨r, hr, hq⟩ := ho htr
      rw [hC] at hcs
      obtain ⟨_, hcl, hat⟩ := World.cells?_some hcs
      refine ⟨r, hq, fun j u hu => ?_⟩
      rw [← hr] at hu
      have hj : j < sz := by have := (List.getElem?_eq_some_iff.1 hu).1; rw [hr, hsz] at this; exact this
      have := hat j hj
      rw [hu] at this
      rw [← Go.Deep.add_add]
      exact this)
    subst hll
    exact ⟨some a, l, cap, hc, hat, hl, hm, (fun h => by cases h), hq⟩
set_option maxRecDepth 100000 in
theorem open_book {v : Value} {d : DataW H} {p : List MemPlace} (hv : Value.okWide Tryz.prog w .any 0 27 v) (h : DataW.Trod enc Tryz.prog w 0 spare held 27 v d p) :
    ∃ (l0 l1 : Int) (A A2 : Option Addr) (rs : List Rd) (ms : List Mv) (c c2 : Nat), v = .agg #[.int .i64 l0, .int .i64 l1, .slice A rs.length c, .slice A2 ms.length c2] ∧ (Lit.int .i64 l0).wf = true ∧ (Lit.int .i64 l1).wf = true ∧
      At 4 Rd.cs w A rs ∧ rs.length ≤ c ∧ c ≤ maxLen ∧ (A = none → c = 0) ∧ (∀ x ∈ rs, x.c.size ≤ maxLen) ∧ At 4 Mv.cs w A2 ms ∧ ms.length ≤ c2 ∧ c2 ≤ maxLen ∧ (A2 = none → c2 = 0) ∧ (∀ x ∈ ms, x.f.size ≤ maxLen ∧ x.t.size ≤ maxLen) := by
  obtain ⟨cs, rfl, hsz⟩ := okWide_struct Tryz.underlying27 hv
  have h4 : cs.size = 4 := hsz.trans (by kernel_rfl)
  obtain ⟨l⟩ := cs
  match l, h4 with
  | [c0, c1, c2, c3], _ =>
    obtain ⟨fuel, hf'⟩ := h
    obtain ⟨ys, m, -, -, hlen, hyl, hf⟩ := DataW.trod_struct Tryz.underlying27 hf'
    have k24 : Tryz.prog.cellsOf 23 = 2 := by kernel_rfl
    have k46 : Tryz.prog.cellsOf 24 = 1 := by kernel_rfl
    have k47 : Tryz.prog.cellsOf 25 = 1 := by kernel_rfl
    match ys, hyl with
    | [y0, y1, y2], _ =>
      have g0 : DataW.trod enc Tryz.prog w 0 spare held m 23 ((List.drop 0 [c0, c1, c2, c3]).take (Tryz.prog.cellsOf 23)) = some y0 := hf 0 _ rfl
      have g1 : DataW.trod enc Tryz.prog w 0 spare held m 24 ((List.drop 2 [c0, c1, c2, c3]).take (Tryz.prog.cellsOf 24)) = some y1 := hf 1 _ rfl
      have g2 : DataW.trod enc Tryz.prog w 0 spare held m 25 ((List.drop 3 [c0, c1, c2, c3]).take (Tryz.prog.cellsOf 25)) = some y2 := hf 2 _ rfl
      rw [k24] at g0
      rw [k46] at g1
      rw [k47] at g2
      simp only [Value.cells, List.drop_zero, List.drop_succ_cons, List.take_succ_cons, List.take_zero] at g0 g1 g2
      obtain ⟨a, b, rfl, rfl, wa, wb⟩ := open_range g0
      obtain ⟨A, rs, c, rfl, p1, p2, p3, p4, p5⟩ := open_flat (cs := Rd.cs) (sz := 4) (Q := fun r => r.c.size ≤ maxLen) Tryz.underlying24 (by kernel_rfl) (by omega) (fun _ => rfl) open_rd g1
      obtain ⟨A2, ms, c2', rfl, q1, q2, q3, q4, q5⟩ := open_flat (cs := Mv.cs) (sz := 4) (Q := fun r => r.f.size ≤ maxLen ∧ r.t.size ≤ maxLen) Tryz.underlying25 (by kernel_rfl) (by omega) (fun _ => rfl) open_mv g2
      exact ⟨a, b, A, A2, rs, ms, c, c2', rfl, wa, wb, p1, p2, p3, p4, p5, q1, q2, q3, q4, q5⟩
end
end Go.Proofs

set_option linter.unusedSimpArgs false
set_option linter.unusedVariables false
namespace Go.Proofs
open Go.RowKit Go.WideShapes Go.ChangeShapes Go.Deep Go.Joins
section
variable {H : Type} {enc : TypeId × Value → H} {w : World} {spare : Nat → Bool} {held : Bool}
set_option maxRecDepth 100000 in
theorem open_ints' {fuel : Nat} {v : Value} {y : DataW H × List MemPlace} (h : DataW.trod enc Tryz.prog w 0 spare held fuel 28 [v] = some y) :
    ∃ (A : Option Addr) (l : List Int) (c : Nat), v = .slice A l.length c ∧ At 1 Ic w A l := by
  have k : Tryz.prog.cellsOf 3 = 1 := by kernel_rfl
  rcases open_slice Tryz.underlying28 h with ⟨hc, -⟩ | ⟨a, len, cap, m, n, D, Pl, hc, -, hl, hm, hmm, -, hf⟩
  · simp only [List.cons.injEq, and_true] at hc
    exact ⟨none, [], 0, hc, fun k x hx => by simp at hx⟩
  · simp only [List.cons.injEq, and_true] at hc
    have hlm : len ≤ m := by rw [hmm]; split <;> omega
    obtain ⟨l, hll, hat, -⟩ := at_of_cells (cs := Ic) (sz := 1) (Q := fun _ => True) (W := w) (a := a) (fun _ => rfl) (by omega) len (fun i hi => by
      obtain ⟨cs', hcs, ht⟩ := hf i (by omega)
      rw [k] at hcs
      obtain ⟨-, hcl, hce⟩ := World.cells?_some hcs
      obtain ⟨x, e0, -, -⟩ := DataW.trod_int Tryz.underlying3 ht
      subst e0
      refine ⟨x, trivial, ?_⟩
      intro j v hv
      match j, hv with
      | 0, rfl => have := hce 0 (by omega); rw [Go.Deep.add_add] at this; exact this)
    subst hll
    exact ⟨some a, l, cap, hc, hat⟩
set_option maxRecDepth 100000 in
theorem open_ints {v : Value} {d : DataW H} {p : List MemPlace} (hv : Value.okWide Tryz.prog w .any 0 28 v) (h : DataW.Trod enc Tryz.prog w 0 spare held 28 v d p) :
    ∃ (A : Option Addr) (l : List Int) (c : Nat), v = .slice A l.length c ∧ At 1 Ic w A l := by
  obtain ⟨a, len, cap, rfl⟩ := okWide_slice Tryz.underlying28 hv
  obtain ⟨fuel, hf⟩ := h
  exact open_ints' hf
end
end Go.Proofs
