import Derived.Test.YtceiinlmblgdoaaGreatDoorT
set_option linter.unusedSimpArgs false
set_option linter.unusedVariables false
namespace Go.Proofs
open Go.RowKit

theorem clash_false (rs : List Rd) (cask : ByteArray) (ps : List (Nat × Nat)) (h : clashed rs cask ps = false) (k : Nat) (p : Nat × Nat) (x : Rd) (hp : ps[k]? = some p) (hx : rs[p.1]? = some x) : eqS x.c cask = false := by
  unfold clashed at h
  rw [List.any_eq_false] at h
  have := h p (List.mem_of_getElem? hp)
  rw [hx] at this
  simpa using this
theorem allows_bd (l0 l1 : Int) (rs : List Rd) (ms : List Mv) (x : Rd) (day : Int) (hok : Right l0 l1 rs ms) (hx : x ∈ rs) (h0 : 0 ≤ day) (h1 : day ≤ 100000) :
    -20000000000 ≤ allowsLo l0 l1 ms x day ∧ allowsLo l0 l1 ms x day ≤ 20000000000 ∧ -20000000000 ≤ allowsHi l0 l1 ms x day ∧ allowsHi l0 l1 ms x day ≤ 20000000000 := by
  obtain ⟨⟨a1, a2⟩, ⟨b1, b2⟩, _, hmn, hrd, hmv⟩ := hok
  obtain ⟨d1, d2, e1, e2, f1, f2⟩ := hrd x hx
  unfold allowsLo allowsHi
  have n1 := netL_bd x.c x.d day ms hmv hmn
  have n2 := netL_bd x.c day x.d ms hmv hmn
  split
  · have m1 := mul_bd l1 (day - x.d) b1 b2 (by omega) (by omega)
    have m0 := mul_bd l0 (day - x.d) a1 a2 (by omega) (by omega)
    omega
  · have m1 := mul_bd l1 (x.d - day) b1 b2 (by omega) (by omega)
    have m0 := mul_bd l0 (x.d - day) a1 a2 (by omega) (by omega)
    omega
def bdO (o : Option (Int × Int)) : Prop := ∀ a b, o = some (a, b) → -20000000000 ≤ a ∧ a ≤ 20000000000 ∧ -20000000000 ≤ b ∧ b ≤ 20000000000
theorem meet_bd (l0 l1 : Int) (rs : List Rd) (ms : List Mv) (cask : ByteArray) (day : Int) (hok : Right l0 l1 rs ms) (h0 : 0 ≤ day) (h1 : day ≤ 100000) (o : Option (Int × Int)) (ho : bdO o) (x : Rd) (hx : x ∈ rs) :
    bdO (meet l0 l1 ms cask day o x) := by
  have hb := allows_bd l0 l1 rs ms x day hok hx h0 h1
  unfold meet
  split
  · cases o with
    | none => intro a b hab; simp only [Option.some.injEq, Prod.mk.injEq] at hab; omega
    | some q =>
      obtain ⟨c, d⟩ := q
      have := ho c d rfl
      intro a b hab
      simp only [Option.some.injEq, Prod.mk.injEq] at hab
      omega
  · exact ho
theorem meet_bd_take (l0 l1 : Int) (rs : List Rd) (ms : List Mv) (cask : ByteArray) (day : Int) (hok : Right l0 l1 rs ms) (h0 : 0 ≤ day) (h1 : day ≤ 100000) :
    ∀ (l : List Rd) (o : Option (Int × Int)), (∀ x ∈ l, x ∈ rs) → bdO o → bdO (l.foldl (meet l0 l1 ms cask day) o)
  | [], _, _, ho => ho
  | x :: l, o, hl, ho => meet_bd_take l0 l1 rs ms cask day hok h0 h1 l _ (fun y hy => hl y (by simp [hy])) (meet_bd l0 l1 rs ms cask day hok h0 h1 o ho x (hl x (by simp)))

/-- The local struct holds what has been met so far. -/
def OutI (B : Nat) (wr : World) (o : Option (Int × Int)) : Prop :=
  (∃ a b : Int, wr.cell? ⟨B, 0, none⟩ = some (.int .i64 a) ∧ wr.cell? ⟨B, 1, none⟩ = some (.int .i64 b) ∧ (∀ p, o = some p → a = p.1 ∧ b = p.2)) ∧ wr.frozen? ⟨B, 0, none⟩ = false ∧ wr.frozen? ⟨B, 1, none⟩ = false
end Go.Proofs
