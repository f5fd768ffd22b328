import Derived.Test.YtpmliaildjomeaaGreatDoorMg1
import Derived.Test.YtpmliaildjomeaaGreatDoorMg30
import Derived.Laws.FloatBits
import Derived.Laws.FloatArith
import Derived.Test.YtpmliaildjomeaaGreatDoorMg5
import Derived.RangeFuncNested
import Derived.RangeFuncBound
import Derived.RangeFuncCalls
import Derived.Shelf.Abstract
import Derived.Shelf.RegionOpen
import Derived.OwnWalkIn
import Derived.TacticsInMore
import Derived.LoopNIn
import Derived.LoopIn
set_option linter.unusedSimpArgs false
set_option linter.unusedVariables false
namespace Go.Proofs
open Go.RowKit
/-- The root of a number, rounded down. -/
def IsRoot (n r : Int) : Prop := 0 ≤ r ∧ r * r ≤ n ∧ n < (r + 1) * (r + 1)

theorem sq_mono {a b : Int} (h0 : 0 ≤ a) (h : a ≤ b) : a * a ≤ b * b := Int.mul_le_mul h h h0 (by omega)
theorem sq_lt {a b : Int} (h0 : 0 ≤ b) (h : a * a < b * b) : a < b := by
  rcases Int.lt_or_le a b with h1 | h1
  · exact h1
  · have := sq_mono h0 h1; omega
theorem root_unique {n r s : Int} (h : IsRoot n r) (k : IsRoot n s) : r = s := by
  obtain ⟨h0, h1, h2⟩ := h
  obtain ⟨k0, k1, k2⟩ := k
  have a1 : r < s + 1 := sq_lt (by omega) (by omega)
  have a2 : s < r + 1 := sq_lt (by omega) (by omega)
  omega
/-- The root, rounded up. -/
def up (n r : Int) : Int := if r * r = n then r else r + 1

end Go.Proofs

set_option linter.unusedSimpArgs false
set_option linter.unusedVariables false
namespace Go.Proofs
open Go.RowKit
attribute [local go_sem] Oper.semAt_some

/-- The root, bit by bit. -/
def rootGo (n : Int) : Nat → Int → Int
  | 0, r => r
  | t + 1, r => if (r + 2 ^ t) * (r + 2 ^ t) ≤ n then rootGo n t (r + 2 ^ t) else rootGo n t r
def rt (n : Int) : Int := rootGo n 31 0
theorem rootGo_is (n : Int) : ∀ (t : Nat) (r : Int), 0 ≤ r → r * r ≤ n → n < (r + 2 ^ t) * (r + 2 ^ t) → IsRoot n (rootGo n t r)
  | 0, r, h0, h1, h2 => ⟨h0, h1, by simpa [rootGo] using h2⟩
  | t + 1, r, h0, h1, h2 => by
    have hp : (0 : Int) < 2 ^ t := Int.pow_pos (by omega)
    have e : r + 2 ^ (t + 1) = r + 2 ^ t + 2 ^ t := by rw [Int.pow_succ]; omega
    unfold rootGo
    split
    · rename_i h
      exact rootGo_is n t _ (by omega) h (by rw [← e]; exact h2)
    · rename_i h
      exact rootGo_is n t r h0 h1 (by omega)
theorem rt_is (n : Int) (h0 : 0 ≤ n) (h1 : n ≤ 1000000000000000000) : IsRoot n (rt n) := rootGo_is n 31 0 (by omega) (by omega) (by
  have : ((0 : Int) + 2 ^ 31) * (0 + 2 ^ 31) = 4611686018427387904 := by decide
  omega)

/-- The width at a height. -/
def wq (c y : Int) : Int := 4 * (c * c - y * y)
def wLo (c y : Int) : Int := rt (wq c y)
def wHi (c y : Int) : Int := up (wq c y) (rt (wq c y))
theorem wq_bd (c y : Int) (hc : 0 ≤ c) (hc2 : c ≤ 1000) (h1 : -c ≤ y) (h2 : y ≤ c) : 0 ≤ wq c y ∧ wq c y ≤ 4000000 := by
  unfold wq
  have a : 0 ≤ (c - y) * (c + y) := Int.mul_nonneg (by omega) (by omega)
  have b : (c - y) * (c + y) = c * c - y * y := by rw [Int.sub_mul, Int.mul_add, Int.mul_add, Int.mul_comm y c]; omega
  have d : c * c ≤ 1000 * 1000 := sq_mono hc hc2
  have f : 0 ≤ y * y := by
    rcases Int.le_total 0 y with h | h
    · exact Int.mul_nonneg h h
    · exact Int.mul_nonneg_of_nonpos_of_nonpos h h
  omega

/-- The area of the strip number 'i' from below. -/
def strip (c : Int) (i : Nat) : Int × Int := (min (wLo c (-c + i)) (wLo c (-c + i + 1)), max (wHi c (-c + i)) (wHi c (-c + i + 1)))
def strips (c : Int) (k : Nat) : List (Int × Int) := (List.range k).map (strip c)
theorem strips_succ (c : Int) (k : Nat) : strips c (k + 1) = strips c k ++ [strip c k] := by unfold strips; rw [List.range_succ, List.map_append]; rfl
theorem strips_len (c : Int) (k : Nat) : (strips c k).length = k := by unfold strips; simp

def addA (o a : Int × Int) : Int × Int := (o.1 + a.1, o.2 + a.2)
def sumA (l : List (Int × Int)) : Int × Int := l.foldl addA (0, 0)
theorem sumA_snoc (l : List (Int × Int)) (x : Int × Int) : sumA (l ++ [x]) = ((sumA l).1 + x.1, (sumA l).2 + x.2) := by unfold sumA; rw [List.foldl_append]; rfl
/-- The area of a circle up to a level. -/
def areaOf (c lv : Int) : Int × Int := sumA (strips c (min lv c + c).toNat)

theorem wLo_bd (c y : Int) (hc : 0 ≤ c) (hc2 : c ≤ 1000) (h1 : -c ≤ y) (h2 : y ≤ c) : 0 ≤ wLo c y ∧ wLo c y ≤ 2000 ∧ wLo c y ≤ wHi c y ∧ wHi c y ≤ wLo c y + 1 := by
  obtain ⟨h3, h4⟩ := wq_bd c y hc hc2 h1 h2
  obtain ⟨a, b, _⟩ := rt_is _ h3 (by omega)
  have : rt (wq c y) < 2001 := sq_lt (by omega) (by omega)
  unfold wLo wHi up
  refine ⟨a, by omega, ?_, ?_⟩ <;> split <;> omega
theorem strip_bd (c : Int) (i : Nat) (hc : 0 ≤ c) (hc2 : c ≤ 1000) (h : -c + (i : Int) < c) : 0 ≤ (strip c i).1 ∧ (strip c i).1 ≤ 2001 ∧ 0 ≤ (strip c i).2 ∧ (strip c i).2 ≤ 2001 := by
  have a := wLo_bd c (-c + i) hc hc2 (by omega) (by omega)
  have b := wLo_bd c (-c + i + 1) hc hc2 (by omega) (by omega)
  unfold strip
  refine ⟨?_, ?_, ?_, ?_⟩ <;> dsimp only <;> omega
theorem sumA_bd (c : Int) (hc : 0 ≤ c) (hc2 : c ≤ 1000) : ∀ k : Nat, -c + (k : Int) ≤ c → 0 ≤ (sumA (strips c k)).1 ∧ (sumA (strips c k)).1 ≤ 2001 * k ∧ 0 ≤ (sumA (strips c k)).2 ∧ (sumA (strips c k)).2 ≤ 2001 * k
  | 0, _ => by simp [strips, sumA]
  | k + 1, h => by
    have ih := sumA_bd c hc hc2 k (by omega)
    have b := strip_bd c k hc hc2 (by omega)
    rw [strips_succ, sumA_snoc]
    dsimp only
    omega

end Go.Proofs

set_option linter.unusedSimpArgs false
set_option linter.unusedVariables false
namespace Go.Proofs
open Go.RowKit
attribute [local go_sem] Oper.semAt_some

theorem cell_grown {A B : World} {row : Option Nat} {k o : Nat} {v : Value} (h : A.grownBy B row) (hr : ∀ r, row = some r → k < r) (hc : A.cell? ⟨k, o, none⟩ = some v) : B.cell? ⟨k, o, none⟩ = some v := by
  have hk : k < A.heap.size := World.block_lt_of_cell? _ _ hc
  rw [← hc]
  exact World.cell?_of_block (a := ⟨k, o, none⟩) (h.block k hk (fun e => by have := hr k e.symm; omega))
theorem frozen_grown {A B : World} {row : Option Nat} {k o : Nat} {v : Value} {b : Bool} (h : A.grownBy B row) (hr : ∀ r, row = some r → k < r) (hc : A.cell? ⟨k, o, none⟩ = some v) (hf : A.frozen? ⟨k, o, none⟩ = b) : B.frozen? ⟨k, o, none⟩ = b := by
  have hk : k < A.heap.size := World.block_lt_of_cell? _ _ hc
  rw [← hf]
  exact World.frozen?_of_block (a := ⟨k, o, none⟩) (h.block k hk (fun e => by have := hr k e.symm; omega))
theorem below_grown {w A B : World} {row : Option Nat} (hb : Below w.heap.size w A) (h : A.grownBy B row) (hr : ∀ r, row = some r → w.heap.size ≤ r) : Below w.heap.size w B := hb.grown h hb.size hr

theorem stay_alloc (M : Nat → Prop) (W : World) (o : Obj) : Stay M W (W.alloc o) := ⟨by simp, fun k c t f _ h => (Below.heap_alloc W o k (Array.getElem?_eq_some_iff.1 h).1).trans h⟩
/-- What the caller's own cells hold between two rounds. -/
def AreaI (w : World) (pre : List (Int × Int)) (W : World) : Prop :=
  W.cell? ⟨w.heap.size + 1, 0, none⟩ = some (.int .i64 (sumA pre).1) ∧ W.cell? ⟨w.heap.size + 1, 1, none⟩ = some (.int .i64 (sumA pre).2) ∧ W.frozen? ⟨w.heap.size + 1, 0, none⟩ = false ∧ W.frozen? ⟨w.heap.size + 1, 1, none⟩ = false ∧
  W.cell? ⟨w.heap.size, 0, none⟩ = some (.int .i64 0) ∧ W.cell? ⟨w.heap.size, 1, none⟩ = some (.int .i64 0) ∧ W.frozen? ⟨w.heap.size, 0, none⟩ = false ∧ W.frozen? ⟨w.heap.size, 1, none⟩ = false ∧ w.heap.size + 4 ≤ W.heap.size ∧ Below w.heap.size w W
theorem areaI_abide (w : World) (B : Nat) (hB : w.heap.size + 4 ≤ B) : Abide B (AreaI w) := by
  rintro s A W' row ⟨h1, h2, h3, h4, h5, h6, h7, h8, h9, h10⟩ hg hr
  have q0 : ∀ r, row = some r → w.heap.size < r := fun r e => by have := hr r e; omega
  have q1 : ∀ r, row = some r → w.heap.size + 1 < r := fun r e => by have := hr r e; omega
  have q2 : ∀ r, row = some r → w.heap.size ≤ r := fun r e => by have := hr r e; omega
  exact ⟨cell_grown hg q1 h1, cell_grown hg q1 h2, frozen_grown hg q1 h1 h3, frozen_grown hg q1 h2 h4, cell_grown hg q0 h5, cell_grown hg q0 h6, frozen_grown hg q0 h5 h7, frozen_grown hg q0 h6 h8, by have := hg.size; omega, below_grown h10 hg q2⟩

end Go.Proofs
