import Derived.Test.YtmnjoamkaapjcaaGreatMg2
import Derived.Test.YtmnjoamkaapjcaaGreatMg1
set_option linter.unusedSimpArgs false
set_option linter.unusedVariables false
namespace Go.Proofs
open Go.RowKit

/-- How many bits of a number are set. -/
def pcn : Nat → Nat → Nat
  | 0, _ => 0
  | f + 1, n => n % 2 + pcn f (n / 2)
def o1 (x : Int) : Int := IntKind.u64.wrap (bits .and .u64 (x / 2) 6148914691236517205 + bits .and .u64 x 6148914691236517205)
def o2 (x : Int) : Int := IntKind.u64.wrap (bits .and .u64 (x / 4) 3689348814741910323 + bits .and .u64 x 3689348814741910323)
def o3 (x : Int) : Int := bits .and .u64 (IntKind.u64.wrap (x / 16 + x)) 1085102592571150095
def o4 (x : Int) : Int := IntKind.u64.wrap (x + x / 256)
def o5 (x : Int) : Int := IntKind.u64.wrap (x + x / 65536)
def o6 (x : Int) : Int := IntKind.u64.wrap (x + x / 4294967296)
def onesF (x : Int) : Int := bits .and .i64 (wrap64 (o6 (o5 (o4 (o3 (o2 (o1 x))))))) 127
theorem onesF_eq : ∀ n ∈ List.range 256, onesF (n : Int) = ((pcn 8 n : Nat) : Int) := by decide +kernel
theorem ones64_any (n : Nat) (hn : n < 256) (w : World) : Calls Tryz.prog 58 #[.int .u64 n] w fun e w' => e = .returned (.int .i64 (pcn 8 n)) ∧ w = w' := by
  have h := Lib.hid (onesF_eq n (List.mem_range.2 hn))
  go_enter Tryz.func58, Tryz.ntmps58
  go_wp2
  go_ret
  exact ⟨ret_int h.out, rfl⟩
theorem ones_any (n : Nat) (hn : n < 256) (w : World) : Calls Tryz.prog 32 #[.int .u64 n] w fun e w' => e = .returned (.int .i64 (pcn 8 n)) ∧ w = w' := by
  go_enter Tryz.func32, Tryz.ntmps32
  go_wp2_with (go_at_call 58; refine (ones64_any n hn _).mono ?_; rintro e w' ⟨rfl, rfl⟩)
  go_ret
  exact ⟨rfl, rfl⟩
end Go.Proofs

set_option linter.unusedSimpArgs false
set_option linter.unusedVariables false
namespace Go.Proofs
open Go.RowKit

/-! Sets as numbers: the first gauging has the highest bit. -/
def valV : List Bool → Nat
  | [] => 0
  | b :: v => (if b then 2 ^ v.length else 0) + valV v
theorem vals_of : ∀ k ∈ List.range 9, (subs k).map valV = (List.range (2 ^ k)).reverse := by decide +kernel
theorem val_ones : ∀ k ∈ List.range 9, ∀ v ∈ subs k, pcn 8 (valV v) = ones v := by decide +kernel
theorem val_bit : ∀ k ∈ List.range 9, ∀ v ∈ subs k, ∀ j ∈ List.range k, (bits .and .u64 (valV v : Int) ((2 ^ (k - 1 - j) : Nat) : Int) == 0) = !(v.getD j false) := by decide +kernel
theorem val_lt : ∀ k ∈ List.range 9, ∀ v ∈ subs k, valV v < 2 ^ k := by decide +kernel
/-- The set of a number. -/
def setOf (k n : Nat) : List Bool := (subs k).getD (2 ^ k - 1 - n) []
theorem setOf_val : ∀ k ∈ List.range 9, ∀ n ∈ List.range (2 ^ k), valV (setOf k n) = n ∧ (subs k)[2 ^ k - 1 - n]? = some (setOf k n) := by decide +kernel
/-- Two lists that rise strictly and have the same numbers are one. -/
def Rises : List Nat → Prop
  | [] => True
  | [_] => True
  | a :: b :: l => a < b ∧ Rises (b :: l)
theorem rises_lt : ∀ {a : Nat} {l : List Nat}, Rises (a :: l) → ∀ x ∈ l, a < x
  | a, [], _, x, hx => by cases hx
  | a, b :: l, h, x, hx => by
    rcases List.mem_cons.1 hx with rfl | hx
    · exact h.1
    · exact Nat.lt_trans h.1 (rises_lt h.2 x hx)
theorem rises_tail {a : Nat} {l : List Nat} (h : Rises (a :: l)) : Rises l := by
  cases l with
  | nil => trivial
  | cons b l => exact h.2
theorem rises_eq : ∀ {l m : List Nat}, Rises l → Rises m → (∀ x, x ∈ l ↔ x ∈ m) → l = m
  | [], [], _, _, _ => rfl
  | [], b :: m, _, _, h => by have := (h b).2 (List.mem_cons_self ..); cases this
  | a :: l, [], _, _, h => by have := (h a).1 (List.mem_cons_self ..); cases this
  | a :: l, b :: m, hl, hm, h => by
    have hab : a = b := by
      have h1 := (h a).1 (List.mem_cons_self ..)
      have h2 := (h b).2 (List.mem_cons_self ..)
      rcases List.mem_cons.1 h1 with e | h1
      · exact e
      · rcases List.mem_cons.1 h2 with e | h2
        · exact e.symm
        · have := rises_lt hm a h1
          have := rises_lt hl b h2
          omega
    subst hab
    congr 1
    refine rises_eq (rises_tail hl) (rises_tail hm) fun x => ⟨fun hx => ?_, fun hx => ?_⟩
    · rcases List.mem_cons.1 ((h x).1 (List.mem_cons_of_mem _ hx)) with e | h1
      · have := rises_lt hl x hx; omega
      · exact h1
    · rcases List.mem_cons.1 ((h x).2 (List.mem_cons_of_mem _ hx)) with e | h1
      · have := rises_lt hm x hx; omega
      · exact h1
end Go.Proofs
