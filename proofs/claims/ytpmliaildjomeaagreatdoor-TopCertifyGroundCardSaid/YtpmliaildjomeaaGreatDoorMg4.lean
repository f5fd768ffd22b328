import Derived.Test.YtpmliaildjomeaaGreatDoorMg1
import Derived.OneCell
import Derived.Laws.NewBlocks
import Derived.Laws.IdiomRangeMap
set_option linter.unusedSimpArgs false
set_option linter.unusedVariables false
namespace Go.Proofs
open Go.RowKit

/-- The slice at 'A' holds the rows 'l', each of 'sz' cells. -/
def At {α : Type} (sz : Nat) (cs : α → List Value) (w : World) (A : Option Addr) (l : List α) : Prop :=
  ∀ k x, l[k]? = some x → ∃ b o, A = some ⟨b, o, none⟩ ∧ b < w.heap.size ∧ ∀ j v, (cs x)[j]? = some v → w.cell? ⟨b, o + k * sz + j, none⟩ = some v
theorem At.below {α : Type} {sz : Nat} {cs : α → List Value} {w w' : World} {A : Option Addr} {l : List α} (h : At sz cs w A l) (hb : Below w.heap.size w w') : At sz cs w' A l := by
  intro k x hx
  obtain ⟨b, o, hA, hlt, hc⟩ := h k x hx
  exact ⟨b, o, hA, Nat.lt_of_lt_of_le hlt hb.size, fun j v hv => (hb.cell (p := ⟨b, o + k * sz + j, none⟩) hlt).trans (hc j v hv)⟩
theorem At.alloc {α : Type} {sz : Nat} {cs : α → List Value} {w : World} {A : Option Addr} {l : List α} (h : At sz cs w A l) (ob : Obj) : At sz cs (w.alloc ob) A l := h.below (new_below _ _)

structure Mv where
  d : Int
  f : ByteArray
  t : ByteArray
  v : Int
def Mv.cs (x : Mv) : List Value := [.int .i64 x.d, .string x.f, .string x.t, .int .i64 x.v]
structure Rd where
  c : ByteArray
  d : Int
  lo : Int
  hi : Int
def Rd.cs (x : Rd) : List Value := [.string x.c, .int .i64 x.d, .int .i64 x.lo, .int .i64 x.hi]

def eqS (a b : ByteArray) : Bool := a.toList == b.toList

def endB (s : ByteArray) : Bool := s.toList.isEmpty || nameB s.data.toList
def moveE (m : Mv) : Int :=
  firstE [unl (within m.d 0 100000) 2, unl (endB m.f && endB m.t) 4, unl (!eqS m.f m.t) 3, unl (within m.v 0 100000) 2]

end Go.Proofs

set_option linter.unusedSimpArgs false
set_option linter.unusedVariables false
namespace Go.Proofs
open Go.RowKit
/-! What a block holds, whole: one fact a block. -/
theorem bk_keep {W w1 : World} {b : Nat} {o : Obj} (hb : Below W.heap.size W w1) (h : W.heap[b]? = some o) : w1.heap[b]? = some o := (hb.block b (lt_of_block h)).trans h
theorem bk_alloc {w : World} {b : Nat} {o : Obj} (h : w.heap[b]? = some o) (o' : Obj) : (w.alloc o').heap[b]? = some o := (Below.heap_alloc w o' b (lt_of_block h)).trans h
theorem bk_drew {w : World} {b : Nat} {o : Obj} (h : w.heap[b]? = some o) : w.drew.heap[b]? = some o := h
theorem bk_new (w : World) (o : Obj) {n : Nat} (hn : n = w.heap.size) : (w.alloc o).heap[n]? = some o := by subst hn; exact heap_alloc_new w o
theorem bk_set {w : World} {b : Nat} {o : Obj} (h : w.heap[b]? = some o) {p : Addr} (hne : b ≠ p.block) (u : Value) : (w.setCell p u).heap[b]? = some o := (Below.heap_setCell w p u b hne).trans h
theorem bk_cell {w : World} {b : Nat} {cs : Array Value} {t : TypeId} {f : Nat × Nat} (h : w.heap[b]? = some (.cells cs t f)) (o : Nat) : w.cell? ⟨b, o, none⟩ = cs[o]? := by simp [World.cell?, h]
theorem bk_free {w : World} {b : Nat} {cs : Array Value} {t : TypeId} (h : w.heap[b]? = some (.cells cs t (0, 0))) (o : Nat) : w.frozen? ⟨b, o, none⟩ = false := by simp [World.frozen?, h]
theorem bk_past {w : World} {b : Nat} {o : Obj} (h : w.heap[b]? = some o) (o' : Obj) (k : Nat) : (w.alloc o').cell? ⟨b, k, none⟩ = w.cell? ⟨b, k, none⟩ := World.cell?_alloc_past _ _ _ (lt_of_block h)
theorem bk_fpast {w : World} {b : Nat} {o : Obj} (h : w.heap[b]? = some o) (o' : Obj) (k : Nat) : (w.alloc o').frozen? ⟨b, k, none⟩ = w.frozen? ⟨b, k, none⟩ := World.frozen?_alloc_past _ _ _ (lt_of_block h)
theorem bk_here {w : World} {b o : Nat} {cs cs' : Array Value} {t : TypeId} {f : Nat × Nat} (h : w.heap[b]? = some (.cells cs t f)) (u : Value) (hc : cs.setIfInBounds o u = cs') : (w.setCell ⟨b, o, none⟩ u).heap[b]? = some (.cells cs' t f) := by
  subst hc
  have hlt := lt_of_block h
  have h' : w.heap[b] = .cells cs t f := by simpa [Array.getElem?_eq_getElem hlt] using h
  show (w.heap.modify b _)[b]? = _
  rw [Array.getElem?_eq_getElem (by simpa using hlt), Array.getElem_modify_self, h']
  rfl
theorem bk_size {w : World} {b : Nat} {o : Obj} (h : w.heap[b]? = some o) : b < w.heap.size := lt_of_block h
theorem bk1 {w : World} {b : Nat} {v0 : Value} {t : TypeId} (h : w.heap[b]? = some (.cells #[v0] t (0, 0))) : w.cell? ⟨b, 0, none⟩ = some v0 ∧ w.frozen? ⟨b, 0, none⟩ = false ∧ b < w.heap.size :=
  ⟨bk_cell h 0, bk_free h 0, bk_size h⟩
theorem bk2 {w : World} {b : Nat} {v0 v1 : Value} {t : TypeId} (h : w.heap[b]? = some (.cells #[v0, v1] t (0, 0))) : w.cell? ⟨b, 0, none⟩ = some v0 ∧ w.cell? ⟨b, 1, none⟩ = some v1 ∧ w.frozen? ⟨b, 0, none⟩ = false ∧ w.frozen? ⟨b, 1, none⟩ = false ∧ b < w.heap.size :=
  ⟨bk_cell h 0, bk_cell h 1, bk_free h 0, bk_free h 1, bk_size h⟩
theorem bk3 {w : World} {b : Nat} {v0 v1 v2 : Value} {t : TypeId} (h : w.heap[b]? = some (.cells #[v0, v1, v2] t (0, 0))) : w.cell? ⟨b, 0, none⟩ = some v0 ∧ w.cell? ⟨b, 1, none⟩ = some v1 ∧ w.cell? ⟨b, 2, none⟩ = some v2 ∧ w.frozen? ⟨b, 0, none⟩ = false ∧ w.frozen? ⟨b, 1, none⟩ = false ∧ w.frozen? ⟨b, 2, none⟩ = false ∧ b < w.heap.size :=
  ⟨bk_cell h 0, bk_cell h 1, bk_cell h 2, bk_free h 0, bk_free h 1, bk_free h 2, bk_size h⟩
theorem bk4 {w : World} {b : Nat} {v0 v1 v2 v3 : Value} {t : TypeId} (h : w.heap[b]? = some (.cells #[v0, v1, v2, v3] t (0, 0))) : w.cell? ⟨b, 0, none⟩ = some v0 ∧ w.cell? ⟨b, 1, none⟩ = some v1 ∧ w.cell? ⟨b, 2, none⟩ = some v2 ∧ w.cell? ⟨b, 3, none⟩ = some v3 ∧ w.frozen? ⟨b, 0, none⟩ = false ∧ w.frozen? ⟨b, 1, none⟩ = false ∧ w.frozen? ⟨b, 2, none⟩ = false ∧ w.frozen? ⟨b, 3, none⟩ = false ∧ b < w.heap.size :=
  ⟨bk_cell h 0, bk_cell h 1, bk_cell h 2, bk_cell h 3, bk_free h 0, bk_free h 1, bk_free h 2, bk_free h 3, bk_size h⟩
theorem bk5 {w : World} {b : Nat} {v0 v1 v2 v3 v4 : Value} {t : TypeId} (h : w.heap[b]? = some (.cells #[v0, v1, v2, v3, v4] t (0, 0))) : w.cell? ⟨b, 0, none⟩ = some v0 ∧ w.cell? ⟨b, 1, none⟩ = some v1 ∧ w.cell? ⟨b, 2, none⟩ = some v2 ∧ w.cell? ⟨b, 3, none⟩ = some v3 ∧ w.cell? ⟨b, 4, none⟩ = some v4 ∧ w.frozen? ⟨b, 0, none⟩ = false ∧ w.frozen? ⟨b, 1, none⟩ = false ∧ w.frozen? ⟨b, 2, none⟩ = false ∧ w.frozen? ⟨b, 3, none⟩ = false ∧ w.frozen? ⟨b, 4, none⟩ = false ∧ b < w.heap.size :=
  ⟨bk_cell h 0, bk_cell h 1, bk_cell h 2, bk_cell h 3, bk_cell h 4, bk_free h 0, bk_free h 1, bk_free h 2, bk_free h 3, bk_free h 4, bk_size h⟩
theorem bk6 {w : World} {b : Nat} {v0 v1 v2 v3 v4 v5 : Value} {t : TypeId} (h : w.heap[b]? = some (.cells #[v0, v1, v2, v3, v4, v5] t (0, 0))) : w.cell? ⟨b, 0, none⟩ = some v0 ∧ w.cell? ⟨b, 1, none⟩ = some v1 ∧ w.cell? ⟨b, 2, none⟩ = some v2 ∧ w.cell? ⟨b, 3, none⟩ = some v3 ∧ w.cell? ⟨b, 4, none⟩ = some v4 ∧ w.cell? ⟨b, 5, none⟩ = some v5 ∧ w.frozen? ⟨b, 0, none⟩ = false ∧ w.frozen? ⟨b, 1, none⟩ = false ∧ w.frozen? ⟨b, 2, none⟩ = false ∧ w.frozen? ⟨b, 3, none⟩ = false ∧ w.frozen? ⟨b, 4, none⟩ = false ∧ w.frozen? ⟨b, 5, none⟩ = false ∧ b < w.heap.size :=
  ⟨bk_cell h 0, bk_cell h 1, bk_cell h 2, bk_cell h 3, bk_cell h 4, bk_cell h 5, bk_free h 0, bk_free h 1, bk_free h 2, bk_free h 3, bk_free h 4, bk_free h 5, bk_size h⟩
theorem bk7 {w : World} {b : Nat} {v0 v1 v2 v3 v4 v5 v6 : Value} {t : TypeId} (h : w.heap[b]? = some (.cells #[v0, v1, v2, v3, v4, v5, v6] t (0, 0))) : w.cell? ⟨b, 0, none⟩ = some v0 ∧ w.cell? ⟨b, 1, none⟩ = some v1 ∧ w.cell? ⟨b, 2, none⟩ = some v2 ∧ w.cell? ⟨b, 3, none⟩ = some v3 ∧ w.cell? ⟨b, 4, none⟩ = some v4 ∧ w.cell? ⟨b, 5, none⟩ = some v5 ∧ w.cell? ⟨b, 6, none⟩ = some v6 ∧ w.frozen? ⟨b, 0, none⟩ = false ∧ w.frozen? ⟨b, 1, none⟩ = false ∧ w.frozen? ⟨b, 2, none⟩ = false ∧ w.frozen? ⟨b, 3, none⟩ = false ∧ w.frozen? ⟨b, 4, none⟩ = false ∧ w.frozen? ⟨b, 5, none⟩ = false ∧ w.frozen? ⟨b, 6, none⟩ = false ∧ b < w.heap.size :=
  ⟨bk_cell h 0, bk_cell h 1, bk_cell h 2, bk_cell h 3, bk_cell h 4, bk_cell h 5, bk_cell h 6, bk_free h 0, bk_free h 1, bk_free h 2, bk_free h 3, bk_free h 4, bk_free h 5, bk_free h 6, bk_size h⟩
theorem bk8 {w : World} {b : Nat} {v0 v1 v2 v3 v4 v5 v6 v7 : Value} {t : TypeId} (h : w.heap[b]? = some (.cells #[v0, v1, v2, v3, v4, v5, v6, v7] t (0, 0))) : w.cell? ⟨b, 0, none⟩ = some v0 ∧ w.cell? ⟨b, 1, none⟩ = some v1 ∧ w.cell? ⟨b, 2, none⟩ = some v2 ∧ w.cell? ⟨b, 3, none⟩ = some v3 ∧ w.cell? ⟨b, 4, none⟩ = some v4 ∧ w.cell? ⟨b, 5, none⟩ = some v5 ∧ w.cell? ⟨b, 6, none⟩ = some v6 ∧ w.cell? ⟨b, 7, none⟩ = some v7 ∧ w.frozen? ⟨b, 0, none⟩ = false ∧ w.frozen? ⟨b, 1, none⟩ = false ∧ w.frozen? ⟨b, 2, none⟩ = false ∧ w.frozen? ⟨b, 3, none⟩ = false ∧ w.frozen? ⟨b, 4, none⟩ = false ∧ w.frozen? ⟨b, 5, none⟩ = false ∧ w.frozen? ⟨b, 6, none⟩ = false ∧ w.frozen? ⟨b, 7, none⟩ = false ∧ b < w.heap.size :=
  ⟨bk_cell h 0, bk_cell h 1, bk_cell h 2, bk_cell h 3, bk_cell h 4, bk_cell h 5, bk_cell h 6, bk_cell h 7, bk_free h 0, bk_free h 1, bk_free h 2, bk_free h 3, bk_free h 4, bk_free h 5, bk_free h 6, bk_free h 7, bk_size h⟩
end Go.Proofs

set_option linter.unusedSimpArgs false
set_option linter.unusedVariables false
namespace Go.Proofs
open Go.RowKit
/-- The world under a name of its own. -/
theorem wp_world {P : Program} {c : Code} {Q : Exit → Act → World → Prop} {a : Act} {w : World} (h : ∀ W, W = w → c.wp P Q a W) : c.wp P Q a w := h w rfl
end Go.Proofs
