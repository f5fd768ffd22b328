import Derived.Test.YtbikblifpfokaaaGreatDoorMg8
import Derived.Test.YtbikblifpfokaaaGreatDoorMg6
set_option linter.unusedSimpArgs false
set_option linter.unusedVariables false
namespace Go.Proofs
open Go.RowKit
attribute [local go_sem] Oper.semAt_some

theorem cell_grown {A B : World} {row : Option Nat} {k o : Nat} {v : Value} (h : A.grownBy B row) (hr : ∀ r, row = some r → k < r) (hc : A.cell? ⟨k, o, none⟩ = some v) : B.cell? ⟨k, o, none⟩ = some v := by
  have hk : k < A.heap.size := World.block_lt_of_cell? _ _ hc
  rw [← hc]
  exact World.cell?_of_block (a := ⟨k, o, none⟩) (h.block k hk (fun e => by have := hr k e.symm; omega))
theorem frozen_grown {A B : World} {row : Option Nat} {k o : Nat} {v : Value} {b : Bool} (h : A.grownBy B row) (hr : ∀ r, row = some r → k < r) (hc : A.cell? ⟨k, o, none⟩ = some v) (hf : A.frozen? ⟨k, o, none⟩ = b) : B.frozen? ⟨k, o, none⟩ = b := by
  have hk : k < A.heap.size := World.block_lt_of_cell? _ _ hc
  rw [← hf]
  exact World.frozen?_of_block (a := ⟨k, o, none⟩) (h.block k hk (fun e => by have := hr k e.symm; omega))
theorem below_grown {w A B : World} {row : Option Nat} (hb : Below w.heap.size w A) (h : A.grownBy B row) (hr : ∀ r, row = some r → w.heap.size ≤ r) : Below w.heap.size w B := hb.grown h hb.size hr

theorem stay_alloc (M : Nat → Prop) (W : World) (o : Obj) : Stay M W (W.alloc o) := ⟨by simp, fun k c t f _ h => (Below.heap_alloc W o k (Array.getElem?_eq_some_iff.1 h).1).trans h⟩
/-- What the caller's own cells hold between two rounds. -/
def AreaI (w : World) (pre : List (Int × Int)) (W : World) : Prop :=
  W.cell? ⟨w.heap.size + 1, 0, none⟩ = some (.int .i64 (sumA pre).1) ∧ W.cell? ⟨w.heap.size + 1, 1, none⟩ = some (.int .i64 (sumA pre).2) ∧ W.frozen? ⟨w.heap.size + 1, 0, none⟩ = false ∧ W.frozen? ⟨w.heap.size + 1, 1, none⟩ = false ∧
  W.cell? ⟨w.heap.size, 0, none⟩ = some (.int .i64 0) ∧ W.cell? ⟨w.heap.size, 1, none⟩ = some (.int .i64 0) ∧ W.frozen? ⟨w.heap.size, 0, none⟩ = false ∧ W.frozen? ⟨w.heap.size, 1, none⟩ = false ∧ w.heap.size + 4 ≤ W.heap.size ∧ Below w.heap.size w W
theorem areaI_abide (w : World) (B : Nat) (hB : w.heap.size + 4 ≤ B) : Abide B (AreaI w) := by
  rintro s A W' row ⟨h1, h2, h3, h4, h5, h6, h7, h8, h9, h10⟩ hg hr
  have q0 : ∀ r, row = some r → w.heap.size < r := fun r e => by have := hr r e; omega
  have q1 : ∀ r, row = some r → w.heap.size + 1 < r := fun r e => by have := hr r e; omega
  have q2 : ∀ r, row = some r → w.heap.size ≤ r := fun r e => by have := hr r e; omega
  exact ⟨cell_grown hg q1 h1, cell_grown hg q1 h2, frozen_grown hg q1 h1 h3, frozen_grown hg q1 h2 h4, cell_grown hg q0 h5, cell_grown hg q0 h6, frozen_grown hg q0 h5 h7, frozen_grown hg q0 h6 h8, by have := hg.size; omega, below_grown h10 hg q2⟩

end Go.Proofs

set_option linter.unusedSimpArgs false
set_option linter.unusedVariables false
namespace Go.Proofs
open Go.RowKit

def areaE (r l : Int) : Int := if within r 10 800 && within l (-r) r then 0 else 2
def areaV (r l : Int) : Int × Int := if areaE r l = 0 then areaOf r l else (0, 0)
theorem within_true {n lo hi : Int} (h : within n lo hi = true) : lo ≤ n ∧ n ≤ hi := by unfold within at h; simp at h; omega

end Go.Proofs

set_option linter.unusedSimpArgs false
set_option linter.unusedVariables false
namespace Go.Proofs
open Go.RowKit

structure St where
  at_ : Int
  inn : Int
  out : Int
def St.cs (x : St) : List Value := [.int .i64 x.at_, .int .i64 x.inn, .int .i64 x.out]
/-- The error of a station, given the one before. -/
def stE (bung : Int) (prev : Option Int) (s : St) : Int :=
  firstE [unl (within s.at_ 0 3000 && within s.inn 10 bung && within s.out 10 bung) 2, unl (decide (s.inn ≤ s.out) && (match prev with | none => true | some p => decide (p < s.at_))) 9]
def stationsE (bung : Int) : List St → Option Int → Nat → Int × Int
  | [], _, _ => (0, 0)
  | s :: l, prev, k => if stE bung prev s = 0 then stationsE bung l (some s.at_) (k + 1) else (k, stE bung prev s)
def caskHeadE (name : List UInt8) (bung : Int) (n : Nat) : Int :=
  firstE [unl (nameB name) 4, unl (within bung 10 800) 2, unl (decide (1 < (n : Int))) 10, unl (decide ((n : Int) ≤ 12)) 8]
def checkC (name : List UInt8) (bung : Int) (ss : List St) : Int × Int :=
  if caskHeadE name bung ss.length = 0 then stationsE bung ss none 0 else (0, caskHeadE name bung ss.length)

def CAt (bung : Int) (l : List St) (k : Nat) : Prop := stationsE bung l none 0 = stationsE bung (l.drop k) (if k = 0 then none else (l[k - 1]?).map St.at_) k
theorem cask_go {bung : Int} {l : List St} {k : Nat} {x : St} {p : Option Int} (h : CAt bung l k) (hx : Hid (l[k]? = some x)) (hp : Hid ((if k = 0 then none else (l[k - 1]?).map St.at_) = p)) (hz : Hid (stE bung p x = 0)) : CAt bung l (k + 1) := by
  unfold CAt at *
  obtain ⟨hi, hx'⟩ := List.getElem?_eq_some_iff.1 hx.out
  rw [h, List.drop_eq_getElem_cons hi, hx', stationsE, hp.out, if_pos hz.out]
  congr 1
  rw [if_neg (by omega), Nat.add_sub_cancel, hx.out]; rfl
theorem cask_stop {bung : Int} {l : List St} {k : Nat} {x : St} {p : Option Int} (h : CAt bung l k) (hx : Hid (l[k]? = some x)) (hp : Hid ((if k = 0 then none else (l[k - 1]?).map St.at_) = p)) (hz : Hid (¬ stE bung p x = 0)) :
    stationsE bung l none 0 = ((k : Int), stE bung p x) := by
  unfold CAt at *
  obtain ⟨hi, hx'⟩ := List.getElem?_eq_some_iff.1 hx.out
  rw [h, List.drop_eq_getElem_cons hi, hx', stationsE, hp.out, if_neg hz.out]
theorem cask_end {bung : Int} {l : List St} {k : Nat} (h : CAt bung l k) (hk : l.length ≤ k) : stationsE bung l none 0 = (0, 0) := by
  unfold CAt at h
  rw [h, List.drop_of_length_le hk]; rfl
theorem caskHeadE_zero {name : List UInt8} {bung : Int} {n : Nat} (h : caskHeadE name bung n = 0) : nameB name = true ∧ within bung 10 800 = true ∧ 1 < n ∧ n ≤ 12 := by
  unfold caskHeadE firstE unl at h
  by_cases h1 : nameB name = true <;> by_cases h2 : within bung 10 800 = true <;> by_cases h3 : 1 < (n : Int) <;> by_cases h4 : (n : Int) ≤ 12 <;> simp [h1, h2, h3, h4, firstE] at h
  exact ⟨h1, h2, by omega, by omega⟩

end Go.Proofs
