import Derived.Test.YtmnjoamkaapjcaaGreatMg16
set_option linter.unusedSimpArgs false
set_option linter.unusedVariables false
namespace Go.Proofs
open Go.RowKit

structure RootAt (n : Int) (r b : Value) : Prop where
  out : ∃ (t : Nat) (p rr : Int), r = .int .i64 rr ∧ b = .int .i64 (p / 2) ∧ p = 2 ^ t ∧ rootGo n t rr = rt n ∧ 0 ≤ rr ∧ rr + p ≤ 2147483648
theorem sq_bd31 (x : Int) (h0 : 0 ≤ x) (h1 : x ≤ 2147483648) : 0 ≤ x * x ∧ x * x ≤ 4611686018427387904 :=
  ⟨Int.mul_nonneg h0 h0, by have := Int.mul_le_mul h1 h1 h0 (by omega : (0 : Int) ≤ 2147483648); omega⟩

def upR (n : Int) : Int := if rt n * rt n < n then rt n + 1 else rt n
theorem upR_is (n : Int) (h0 : 0 ≤ n) (h1 : n ≤ 1000000000000000000) : upR n = up n (rt n) := by
  have h := rt_is n h0 h1
  unfold upR up
  have := h.2.1
  split <;> split <;> omega
end Go.Proofs

set_option linter.unusedSimpArgs false
set_option linter.unusedVariables false
namespace Go.Proofs
open Go.RowKit

theorem rt_mono {a b : Int} (h0 : 0 ≤ a) (h : a ≤ b) (h1 : b ≤ 1000000000000000000) : rt a ≤ rt b := by
  have ha := rt_is a h0 (by omega)
  have hb := rt_is b (by omega) h1
  have := sq_lt (a := rt a) (b := rt b + 1) (by have := hb.1; omega) (by have := ha.2.1; have := hb.2.2; omega)
  omega
theorem up_le {n r v : Int} (h : IsRoot n r) (hv : 0 ≤ v) (hn : n ≤ v * v) : up n r ≤ v := by
  unfold up
  obtain ⟨a, b, c⟩ := h
  split
  · rename_i e
    rcases Int.lt_or_le v r with hlt | hle
    · have := sq_mono (a := v + 1) (b := r) (by omega) (by omega)
      have e2 : (v + 1) * (v + 1) = v * v + 2 * v + 1 := by rw [Int.add_mul, Int.mul_add]; omega
      omega
    · exact hle
  · rename_i e
    have := sq_lt (a := r) (b := v) hv (by omega)
    omega
theorem le_up {n r : Int} (h : IsRoot n r) : 0 ≤ up n r ∧ n ≤ up n r * up n r := by
  unfold up
  obtain ⟨a, b, c⟩ := h
  split
  · exact ⟨a, by omega⟩
  · exact ⟨by omega, by omega⟩
theorem upR_mono {a b : Int} (h0 : 0 ≤ a) (h : a ≤ b) (h1 : b ≤ 1000000000000000000) : upR a ≤ upR b := by
  rw [upR_is a h0 (by omega), upR_is b (by omega) h1]
  have hb := le_up (rt_is b (by omega) h1)
  exact up_le (rt_is a h0 (by omega)) hb.1 (by omega)
theorem rt_min (a b : Int) (ha : 0 ≤ a) (hb : 0 ≤ b) (ha1 : a ≤ 1000000000000000000) (hb1 : b ≤ 1000000000000000000) : rt (min a b) = min (rt a) (rt b) := by
  rcases Int.le_total a b with h | h
  · have := rt_mono ha h hb1
    rw [Int.min_eq_left h, Int.min_eq_left this]
  · have := rt_mono hb h ha1
    rw [Int.min_eq_right h, Int.min_eq_right this]
theorem upR_max (a b : Int) (ha : 0 ≤ a) (hb : 0 ≤ b) (ha1 : a ≤ 1000000000000000000) (hb1 : b ≤ 1000000000000000000) : upR (max a b) = max (upR a) (upR b) := by
  rcases Int.le_total a b with h | h
  · have := upR_mono ha h hb1
    rw [Int.max_eq_right h, Int.max_eq_right this]
  · have := upR_mono hb h ha1
    rw [Int.max_eq_left h, Int.max_eq_left this]

end Go.Proofs
