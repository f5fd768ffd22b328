import Derived.Test.YtpmliaildjomeaaGreatDoorMg8
import Derived.BigRegion
set_option linter.unusedSimpArgs false
set_option linter.unusedVariables false
namespace Go.Proofs
open Go.RowKit

theorem bookE_zero {l0 l1 : Int} {n m : Nat} (h : bookE l0 l1 n m = 0) : within l0 0 100000 = true ∧ within l1 0 100000 = true ∧ l0 ≤ l1 ∧ n ≤ 40 ∧ m ≤ 60 := by
  unfold bookE firstE unl at h
  by_cases h1 : within l0 0 100000 = true <;> by_cases h2 : within l1 0 100000 = true <;> by_cases h3 : l0 ≤ l1 <;> by_cases h4 : (n : Int) ≤ 40 <;> by_cases h5 : (m : Int) ≤ 60 <;> simp [h1, h2, h3, h4, h5, firstE] at h
  exact ⟨h1, h2, h3, by omega, by omega⟩

end Go.Proofs

set_option linter.unusedSimpArgs false
set_option linter.unusedVariables false
namespace Go.Proofs
open Go.RowKit

def contra (l0 l1 : Int) (ms : List Mv) (x y : Rd) : Bool :=
  eqS x.c y.c && (decide (1000 * y.hi < allowsLo l0 l1 ms x y.d) || decide (allowsHi l0 l1 ms x y.d < 1000 * y.lo))
/-- What is known of a right book. -/
structure Right (l0 l1 : Int) (rs : List Rd) (ms : List Mv) : Prop where
  l0 : 0 ≤ l0 ∧ l0 ≤ 100000
  l1 : 0 ≤ l1 ∧ l1 ≤ 100000
  rn : rs.length ≤ 40
  mn : ms.length ≤ 60
  rd : ∀ x ∈ rs, 0 ≤ x.d ∧ x.d ≤ 100000 ∧ 0 ≤ x.lo ∧ x.lo ≤ 100000 ∧ 0 ≤ x.hi ∧ x.hi ≤ 100000
  mv : ∀ m ∈ ms, 0 ≤ m.v ∧ m.v ≤ 100000

theorem At.two {α : Type} {sz : Nat} {cs : α → List Value} {w : World} {A : Option Addr} {l : List α} (h : At sz cs w A l) {i j : Nat} {x y : α} (hi : l[i]? = some x) (hj : l[j]? = some y) :
    ∃ b o, A = some ⟨b, o, none⟩ ∧ b < w.heap.size ∧ (∀ k v, (cs x)[k]? = some v → w.cell? ⟨b, o + i * sz + k, none⟩ = some v) ∧ (∀ k v, (cs y)[k]? = some v → w.cell? ⟨b, o + j * sz + k, none⟩ = some v) := by
  obtain ⟨b, o, rfl, hb, hc⟩ := h i x hi
  obtain ⟨b', o', hA, _, hc'⟩ := h j y hj
  obtain ⟨rfl, rfl⟩ : b = b' ∧ o = o' := by injection hA with hA; injection hA with e1 e2 _; exact ⟨e1, e2⟩
  exact ⟨b, o, rfl, hb, hc, hc'⟩

end Go.Proofs

set_option linter.unusedSimpArgs false
set_option linter.unusedVariables false
namespace Go.Proofs
open Go.RowKit

theorem grown_of_below {w w' : World} (hb : Below w.heap.size w w') : w.grownBy w' none := ⟨hb.os, hb.tape, hb.output, hb.size, fun k hk _ => hb.block k hk⟩
theorem owns_below {w w' : World} {base : Nat} {e : TypeId} {size : Nat} {v : Value} {n : Nat} {xs : List Value} (h : w.ownsRow base e size v n xs) (hb : Below w.heap.size w w') : w'.ownsRow base e size v n xs :=
  h.kept (grown_of_below hb) (by cases v.ownBlock <;> simp)
theorem flat_get {α β : Type} (cs : α → List β) (sz : Nat) (hsz : ∀ x, (cs x).length = sz) : ∀ (l : List α) (k j : Nat) (x : α) (v : β), l[k]? = some x → (cs x)[j]? = some v → (l.flatMap cs)[k * sz + j]? = some v
  | [], k, j, x, v, h, _ => by simp at h
  | a :: l, 0, j, x, v, h, hv => by
    simp only [List.getElem?_cons_zero, Option.some.injEq] at h
    subst h
    rw [List.flatMap_cons, Nat.zero_mul, Nat.zero_add, List.getElem?_append_left (List.getElem?_eq_some_iff.1 hv).1]
    exact hv
  | a :: l, k + 1, j, x, v, h, hv => by
    simp only [List.getElem?_cons_succ] at h
    have ih := flat_get cs sz hsz l k j x v h hv
    rw [List.flatMap_cons, List.getElem?_append_right (by rw [hsz]; rw [Nat.succ_mul]; omega), hsz, show (k + 1) * sz + j - sz = k * sz + j by rw [Nat.succ_mul]; omega]
    exact ih
theorem at_of_owns {α : Type} {cs : α → List Value} {sz base : Nat} {e : TypeId} {w : World} {v : Value} {l : List α} (hsz : ∀ x, (cs x).length = sz) (h : w.ownsRow base e sz v l.length (l.flatMap cs)) :
    ∃ A cap, v = .slice A l.length cap ∧ At sz cs w A l := by
  rcases h.2 with ⟨rfl, hn⟩ | ⟨g, cap, cur, rfl, hb, hg, hnc, hcm, hcs, ht⟩
  · have : l = [] := List.eq_nil_of_length_eq_zero hn
    subst this
    exact ⟨none, 0, rfl, fun k x hx => by simp at hx⟩
  · refine ⟨some ⟨g, 0, none⟩, cap, rfl, fun k x hx => ⟨g, 0, rfl, (Array.getElem?_eq_some_iff.1 hg).1, fun j u hu => ?_⟩⟩
    have hf := flat_get cs sz hsz l k j x u hx hu
    have hj : j < sz := by rw [← hsz x]; exact (List.getElem?_eq_some_iff.1 hu).1
    have hkl : k < l.length := (List.getElem?_eq_some_iff.1 hx).1
    have hlt : k * sz + j < l.length * sz := by
      have := Nat.mul_le_mul_right sz (Nat.succ_le_of_lt hkl)
      rw [Nat.succ_mul] at this
      omega
    rw [Nat.zero_add, h.cellAt _ hlt]
    exact hf

def Pc (p : Nat × Nat) : List Value := [.int .i64 p.1, .int .i64 p.2]
def contraAt (l0 l1 : Int) (rs : List Rd) (ms : List Mv) (i j : Nat) : Bool :=
  match rs[i]?, rs[j]? with
  | some x, some y => contra l0 l1 ms x y
  | _, _ => false
/-- The pairs (i, a) with i < a < k that a test takes. -/
def pin (C : Nat → Nat → Bool) (i k : Nat) : List (Nat × Nat) := ((List.range k).filter fun j => decide (i < j) && C i j).map fun j => (i, j)
def pout (C : Nat → Nat → Bool) (n i : Nat) : List (Nat × Nat) := (List.range i).flatMap fun a => pin C a n
theorem pin_start (C : Nat → Nat → Bool) (i : Nat) : pin C i (i + 1) = [] := by
  unfold pin
  rw [List.map_eq_nil_iff, List.filter_eq_nil_iff]
  intro a ha
  have := List.mem_range.1 ha
  have : ¬ i < a := by omega
  simp [this]
theorem pin_small (C : Nat → Nat → Bool) (i n : Nat) (h : n ≤ i + 1) : pin C i n = [] := by
  unfold pin
  rw [List.map_eq_nil_iff, List.filter_eq_nil_iff]
  intro a ha
  have := List.mem_range.1 ha
  have : ¬ i < a := by omega
  simp [this]
theorem pin_yes (C : Nat → Nat → Bool) (i k : Nat) (h : i < k) (hc : C i k = true) : pin C i (k + 1) = pin C i k ++ [(i, k)] := by
  unfold pin; rw [List.range_succ, List.filter_append, List.map_append]; simp [h, hc]
theorem pin_no (C : Nat → Nat → Bool) (i k : Nat) (hc : C i k = false) : pin C i (k + 1) = pin C i k := by
  unfold pin; rw [List.range_succ, List.filter_append, List.map_append]; simp [hc]
theorem pout_succ (C : Nat → Nat → Bool) (n i : Nat) : pout C n (i + 1) = pout C n i ++ pin C i n := by
  unfold pout; rw [List.range_succ, List.flatMap_append]; simp
theorem pin_len (C : Nat → Nat → Bool) (i k : Nat) : (pin C i k).length ≤ k := by
  unfold pin; rw [List.length_map]
  exact Nat.le_trans (List.length_filter_le _ _) (by simp)
theorem pout_len (C : Nat → Nat → Bool) (n : Nat) : ∀ i, (pout C n i).length ≤ n * i
  | 0 => by simp [pout]
  | i + 1 => by
    rw [pout_succ, List.length_append, Nat.mul_succ]
    have := pout_len C n i
    have := pin_len C i n
    omega
def allPairs (l0 l1 : Int) (rs : List Rd) (ms : List Mv) : List (Nat × Nat) := pout (contraAt l0 l1 rs ms) rs.length rs.length

theorem info42 : (Tryz.prog.info? 60).map (fun i => (i.zero, i.size, i.bytes)) = some (some (.agg #[.int .i64 0, .int .i64 0]), 2, 16) := by kernel_rfl

end Go.Proofs
