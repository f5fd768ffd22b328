import Derived.Test.YtceiinlmblgdoaaGreatDoorI
import Derived.BigRegion
set_option linter.unusedSimpArgs false
set_option linter.unusedVariables false
namespace Go.Proofs
open Go.RowKit

def contra (l0 l1 : Int) (ms : List Mv) (x y : Rd) : Bool :=
  eqS x.c y.c && (decide (1000 * y.hi < allowsLo l0 l1 ms x y.d) || decide (allowsHi l0 l1 ms x y.d < 1000 * y.lo))
/-- What is known of a right book. -/
structure Right (l0 l1 : Int) (rs : List Rd) (ms : List Mv) : Prop where
  l0 : 0 ≤ l0 ∧ l0 ≤ 100000
  l1 : 0 ≤ l1 ∧ l1 ≤ 100000
  rn : rs.length ≤ 40
  mn : ms.length ≤ 60
  rd : ∀ x ∈ rs, 0 ≤ x.d ∧ x.d ≤ 100000 ∧ 0 ≤ x.lo ∧ x.lo ≤ 100000 ∧ 0 ≤ x.hi ∧ x.hi ≤ 100000
  mv : ∀ m ∈ ms, 0 ≤ m.v ∧ m.v ≤ 100000

theorem At.two {α : Type} {sz : Nat} {cs : α → List Value} {w : World} {A : Option Addr} {l : List α} (h : At sz cs w A l) {i j : Nat} {x y : α} (hi : l[i]? = some x) (hj : l[j]? = some y) :
    ∃ b o, A = some ⟨b, o, none⟩ ∧ b < w.heap.size ∧ (∀ k v, (cs x)[k]? = some v → w.cell? ⟨b, o + i * sz + k, none⟩ = some v) ∧ (∀ k v, (cs y)[k]? = some v → w.cell? ⟨b, o + j * sz + k, none⟩ = some v) := by
  obtain ⟨b, o, rfl, hb, hc⟩ := h i x hi
  obtain ⟨b', o', hA, _, hc'⟩ := h j y hj
  obtain ⟨rfl, rfl⟩ : b = b' ∧ o = o' := by injection hA with hA; injection hA with e1 e2 _; exact ⟨e1, e2⟩
  exact ⟨b, o, rfl, hb, hc, hc'⟩

set_option maxRecDepth 100000 in
set_option maxHeartbeats 2000000 in
theorem contradict_any (l0 l1 : Int) (A A2 : Option Addr) (rs : List Rd) (ms : List Mv) (c c2 : Nat) (i j : Nat) (x y : Rd) (w : World) (hok : Right l0 l1 rs ms)
    (hx : rs[i]? = some x) (hy : rs[j]? = some y) (hat : At 4 Rd.cs w A rs) (hat2 : At 4 Mv.cs w A2 ms) :
    Calls Tryz.prog 83 #[.agg #[.int .i64 l0, .int .i64 l1, .slice A rs.length c, .slice A2 ms.length c2], .int .i64 i, .int .i64 j] w fun e w' =>
      e = .returned (.bool (contra l0 l1 ms x y)) ∧ Below w.heap.size w w' := by
  have hxr := hok.rd x (List.mem_of_getElem? hx)
  have hyr := hok.rd y (List.mem_of_getElem? hy)
  obtain ⟨b, o, rfl, hb, hcx, hcy⟩ := hat.two hx hy
  have hil : i < rs.length := (List.getElem?_eq_some_iff.1 hx).1
  have hjl : j < rs.length := (List.getElem?_eq_some_iff.1 hy).1
  have hrn := hok.rn
  have hA := fun W hW => allows_any l0 l1 (.slice (some ⟨b, o, none⟩) rs.length c) A2 ms c2 x y.d W hok.mn hok.mv (At.below hat2 hW) hok.l0.1 hok.l0.2 hok.l1.1 hok.l1.2 hyr.1 hyr.2.1 ⟨hxr.1, hxr.2.1⟩ ⟨hxr.2.2.1, hxr.2.2.2.1⟩ ⟨hxr.2.2.2.2.1, hxr.2.2.2.2.2⟩
  unfold contra eqS
  generalize allowsLo l0 l1 ms x y.d = a1 at *
  generalize allowsHi l0 l1 ms x y.d = a2 at *
  obtain ⟨xc, xd, xlo, xhi⟩ := x
  obtain ⟨yc, yd, ylo, yhi⟩ := y
  have x0 := hcx 0 _ rfl
  have x1 := hcx 1 _ rfl
  have x2 := hcx 2 _ rfl
  have x3 := hcx 3 _ rfl
  have y0 := hcy 0 _ rfl
  have y1 := hcy 1 _ rfl
  have y2 := hcy 2 _ rfl
  have y3 := hcy 3 _ rfl
  dsimp only at x0 x1 x2 x3 y0 y1 y2 y3 hA hxr hyr
  simp only [Nat.add_zero] at x0 y0
  generalize rs.length = n at *
  obtain ⟨g1, g2, g3, g4, g5, g6⟩ := hyr
  have hA' := Lib.hid hA
  clear hA hcx hcy hx hy hat hat2 hok hxr
  obtain ⟨q, hq⟩ : ∃ q, (xc.toList == yc.toList) = q := ⟨_, rfl⟩
  rw [hq]
  go_enter Tryz.func83, Tryz.ntmps83
  go_wp2_with fail
  obtain ⟨W0, hW0⟩ : ∃ W0, w.alloc (.cells #[.int .i64 l0, .int .i64 l1, .slice (some ⟨b, o, none⟩) n c, .slice A2 ms.length c2] 75) = W0 := ⟨_, rfl⟩
  have k0 : W0.cell? ⟨w.heap.size, 2, none⟩ = some (.slice (some ⟨b, o, none⟩) n c) := by rw [← hW0]; simp
  have k1 : W0.cell? ⟨w.heap.size, 0, none⟩ = some (.int .i64 l0) := by rw [← hW0]; simp
  have k2 : W0.cell? ⟨w.heap.size, 1, none⟩ = some (.int .i64 l1) := by rw [← hW0]; simp
  have k3 : W0.cell? ⟨w.heap.size, 3, none⟩ = some (.slice A2 ms.length c2) := by rw [← hW0]; simp
  have hs0 : w.heap.size < W0.heap.size := by rw [← hW0]; simp
  have hbb : b < W0.heap.size := by omega
  have hw0 : Below w.heap.size w W0 := by rw [← hW0]; go_grown
  have z0 := (hw0.cell (p := ⟨b, o + i * 4, none⟩) hb).trans x0
  have z1 := (hw0.cell (p := ⟨b, o + i * 4 + 1, none⟩) hb).trans x1
  have z2 := (hw0.cell (p := ⟨b, o + i * 4 + 2, none⟩) hb).trans x2
  have z3 := (hw0.cell (p := ⟨b, o + i * 4 + 3, none⟩) hb).trans x3
  have u0 := (hw0.cell (p := ⟨b, o + j * 4, none⟩) hb).trans y0
  have u1 := (hw0.cell (p := ⟨b, o + j * 4 + 1, none⟩) hb).trans y1
  have u2 := (hw0.cell (p := ⟨b, o + j * 4 + 2, none⟩) hb).trans y2
  have u3 := (hw0.cell (p := ⟨b, o + j * 4 + 3, none⟩) hb).trans y3
  rw [hW0]
  clear x0 x1 x2 x3 y0 y1 y2 y3 hW0
  have hi3 : (i : Int) < (n : Int) := by omega
  have hj3 : (j : Int) < (n : Int) := by omega
  have h1 : w.heap.size < W0.heap.size + 1 := by omega
  have h2 : w.heap.size < W0.heap.size + 1 + 1 := by omega
  have hcase : q = false ∨ (q = true ∧ 1000 * yhi < a1) ∨ (q = true ∧ a1 ≤ 1000 * yhi) := by
    cases q
    · exact .inl rfl
    · rcases Int.lt_or_le (1000 * yhi) a1 with h | h
      · exact .inr (.inl ⟨rfl, h⟩)
      · exact .inr (.inr ⟨rfl, h⟩)
  go_region
  all_goals
    rcases hcase with rfl | ⟨rfl, hp⟩ | ⟨rfl, hp⟩
    all_goals
      go_wp2_with (go_at_call 58; refine (hA'.out _ ?_).mono ?_; (· go_grown); rintro e w1 ⟨rfl, hb1⟩; have hcc := gcell hb1; have hff := gfrozen hb1; have hsz := hb1.size; simp only [World.size_alloc, World.size_drew] at hsz; have e0 : w.heap.size < w1.heap.size := (by omega); have e1 : W0.heap.size < w1.heap.size := (by omega); have e2 : W0.heap.size + 1 < w1.heap.size := (by omega); have hbw := via (by go_grown : Below w.heap.size w _) hb1)
      go_ret
      refine ⟨ret_bool ?_, by go_grown⟩
      first
        | rfl
        | (simp only [Bool.true_and, Bool.false_and, decide_eq_true hp, Bool.true_or]; done)
        | (rw [decide_eq_false (by omega : ¬ 1000 * yhi < a1)]; simp; done)
end Go.Proofs
