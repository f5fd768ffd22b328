import Derived.Test.YtmnjoamkaapjcaaGreatMg7
import Derived.Test.YtmnjoamkaapjcaaGreatMg19
import Derived.Test.YtmnjoamkaapjcaaGreatMg8
import Derived.Test.YtmnjoamkaapjcaaGreatMg25
set_option linter.unusedSimpArgs false
set_option linter.unusedVariables false
namespace Go.Proofs
open Go.RowKit

/-- All gaugings of a right book that contradict; of a wrong one none. -/
def contV (l0 l1 : Int) (rs : List Rd) (ms : List Mv) : List (Nat × Nat) := if (checkB l0 l1 rs ms).2 = 0 then allPairs l0 l1 rs ms else []
end Go.Proofs

set_option linter.unusedSimpArgs false
set_option linter.unusedVariables false
namespace Go.Proofs
open Go.RowKit

theorem At.one' {α : Type} {sz : Nat} {cs : α → List Value} {w : World} {A : Option Addr} {l : List α} (h : At sz cs w A l) {i : Nat} {x : α} (hi : l[i]? = some x) :
    ∃ b o, A = some ⟨b, o, none⟩ ∧ ∀ W, Below w.heap.size w W → b < W.heap.size ∧ (∀ k v, (cs x)[k]? = some v → W.cell? ⟨b, o + i * sz + k, none⟩ = some v) := by
  obtain ⟨b, o, rfl, hb, hc⟩ := h i x hi
  exact ⟨b, o, rfl, fun W hW => ⟨Nat.lt_of_lt_of_le hb hW.size, fun k v hv => (hW.cell (p := ⟨b, o + i * sz + k, none⟩) hb).trans (hc k v hv)⟩⟩
theorem At.two' {α : Type} {sz : Nat} {cs : α → List Value} {w : World} {A : Option Addr} {l : List α} (h : At sz cs w A l) {i j : Nat} {x y : α} (hi : l[i]? = some x) (hj : l[j]? = some y) :
    ∃ b o, A = some ⟨b, o, none⟩ ∧ ∀ W, Below w.heap.size w W → b < W.heap.size ∧ (∀ k v, (cs x)[k]? = some v → W.cell? ⟨b, o + i * sz + k, none⟩ = some v) ∧ (∀ k v, (cs y)[k]? = some v → W.cell? ⟨b, o + j * sz + k, none⟩ = some v) := by
  obtain ⟨b, o, rfl, hb, hc, hc'⟩ := h.two hi hj
  exact ⟨b, o, rfl, fun W hW => ⟨Nat.lt_of_lt_of_le hb hW.size, fun k v hv => (hW.cell (p := ⟨b, o + i * sz + k, none⟩) hb).trans (hc k v hv), fun k v hv => (hW.cell (p := ⟨b, o + j * sz + k, none⟩) hb).trans (hc' k v hv)⟩⟩
/-- The error of two gaugings of a right book. -/
def pairE (rs : List Rd) (i j : Int) : Int :=
  if within i 0 (rs.length - 1) = true ∧ within j 0 (rs.length - 1) = true then
    match rs[i.toNat]?, rs[j.toNat]? with
    | some x, some y => if eqS x.c y.c = true then (if i < j ∧ x.d ≤ y.d then 0 else 9) else 13
    | _, _ => 6
  else 6
end Go.Proofs

namespace Go.Proofs
open Go.RowKit

theorem firstE2_of {a b : Int} (h : firstE [a, b] = 0) : a = 0 ∧ b = 0 := firstE2_zero h
theorem pairE_zero {rs : List Rd} {i j : Int} (h : pairE rs i j = 0) : ∃ (a b : Nat) (x y : Rd), i = a ∧ j = b ∧ rs[a]? = some x ∧ rs[b]? = some y ∧ a < b ∧ eqS x.c y.c = true ∧ x.d ≤ y.d := by
  unfold pairE at h
  split at h
  · rename_i hw
    obtain ⟨i1, i2⟩ := within_true hw.1
    obtain ⟨j1, j2⟩ := within_true hw.2
    obtain ⟨a, rfl⟩ : ∃ a : Nat, i = a := ⟨i.toNat, by omega⟩
    obtain ⟨b, rfl⟩ : ∃ b : Nat, j = b := ⟨j.toNat, by omega⟩
    rw [Int.toNat_natCast, Int.toNat_natCast] at h
    have hx := List.getElem?_eq_getElem (l := rs) (i := a) (by omega)
    have hy := List.getElem?_eq_getElem (l := rs) (i := b) (by omega)
    rw [hx, hy] at h
    dsimp only at h
    split at h
    · split at h
      · rename_i h1 h2
        exact ⟨a, b, _, _, rfl, rfl, hx, hy, by omega, h1, h2.2⟩
      · cases h
    · cases h
  · cases h
def pairEE (l0 l1 : Int) (rs : List Rd) (ms : List Mv) (i j : Int) : Int := firstE [(checkB l0 l1 rs ms).2, pairE rs i j]
def contrasV (l0 l1 : Int) (rs : List Rd) (ms : List Mv) (i j : Int) : Bool := decide (pairEE l0 l1 rs ms i j = 0) && contraAt l0 l1 rs ms i.toNat j.toNat
def rngV (l0 l1 : Int) (ms : List Mv) (x : Rd) (day : Int) : Int × Int := (allowsLo l0 l1 ms x day / 1000, -(-allowsHi l0 l1 ms x day / 1000))
def expEE (l0 l1 : Int) (rs : List Rd) (ms : List Mv) (i day : Int) : Int := firstE [(checkB l0 l1 rs ms).2, unl (within i 0 ((rs.length : Int) - 1)) 6, unl (within day 0 100000) 2]
def expVV (l0 l1 : Int) (rs : List Rd) (ms : List Mv) (i day : Int) : Int × Int := if expEE l0 l1 rs ms i day = 0 then (match rs[i.toNat]? with | some x => rngV l0 l1 ms x day | none => (0, 0)) else (0, 0)
end Go.Proofs

namespace Go.Proofs
open Go.RowKit

def goneP (l0 l1 : Int) (ms : List Mv) (x y : Rd) : Int × Int := ((rngV l0 l1 ms x y.d).1 - y.hi, (rngV l0 l1 ms x y.d).2 - y.lo)
def goneVV (l0 l1 : Int) (rs : List Rd) (ms : List Mv) (i j : Int) : Int × Int := if pairEE l0 l1 rs ms i j = 0 then (match rs[i.toNat]?, rs[j.toNat]? with | some x, some y => goneP l0 l1 ms x y | _, _ => (0, 0)) else (0, 0)
end Go.Proofs
