import Derived.Test.YtceiinlmblgdoaaGreatDoorProg
import Derived.WalkKit
import Derived.Handy
import Derived.WalkLawsBesides
import Derived.WalkSpells
import Derived.Lib.ConvBytes
import Derived.Lib.Hide
set_option linter.unusedSimpArgs false
set_option linter.unusedVariables false
namespace Go.Proofs
open Go.RowKit

theorem ret_int {k : IntKind} {a b : Int} (h : a = b) : Ending.returned (.int k a) = .returned (.int k b) := by rw [h]

theorem floor_neg (n b : Int) (hb : 0 < b) (h : n.tmod b < 0) : n.tdiv b - 1 = n / b := by
  have h1 := Int.mul_tdiv_add_tmod n b
  have h2 : -b < n.tmod b := by have := Int.lt_tmod_of_pos n hb; omega
  rw [eq_comm]
  have : n = b * (n.tdiv b - 1) + (n.tmod b + b) := by rw [Int.mul_sub]; omega
  rw [this, Int.mul_add_ediv_left _ _ (by omega), Int.ediv_eq_zero_of_lt (by omega) (by omega)]
  rw [← this]; omega
theorem floor_pos (n b : Int) (hb : 0 < b) (h : 0 ≤ n.tmod b) : n.tdiv b = n / b := by
  have h1 := Int.mul_tdiv_add_tmod n b
  have h2 := Int.tmod_lt_of_pos n hb
  rw [eq_comm]
  have : n = b * (n.tdiv b) + (n.tmod b) := by omega
  rw [this, Int.mul_add_ediv_left _ _ (by omega), Int.ediv_eq_zero_of_lt (by omega) (by omega)]
  rw [← this]; omega
theorem ediv_bd (n b M : Int) (hb : 0 < b) (h1 : -M ≤ n) (h2 : n ≤ M) (hM : 0 ≤ M) : -M ≤ n / b ∧ n / b ≤ M := by
  constructor
  · refine (Int.le_ediv_iff_mul_le hb).2 ?_
    have : -M * b ≤ -M * 1 := Int.mul_le_mul_of_nonpos_left (by omega) (by omega)
    omega
  · have h3 : n / b ≤ M / b := Int.ediv_le_ediv hb h2
    have h4 := Int.ediv_le_self b hM
    omega

theorem floor_any (n b : Int) (w : World) (h1 : -1000000000000000000 ≤ n) (h2 : n ≤ 1000000000000000000) (hb : 0 < b) :
    Calls Tryz.prog 62 #[.int .i64 n, .int .i64 b] w fun e w' => e = .returned (.int .i64 (n / b)) ∧ w = w' := by
  have hd := ediv_bd n b _ hb h1 h2 (by omega)
  go_enter Tryz.func62, Tryz.ntmps62
  go_wp2
  all_goals
    go_ret
    refine ⟨ret_int ?_, rfl⟩
  · rw [floor_neg n b hb (by assumption)]; simp only [wrap64]; omega
  · exact floor_pos n b hb (by assumption)
theorem ceil_any (n b : Int) (w : World) (h1 : -1000000000000000000 ≤ n) (h2 : n ≤ 1000000000000000000) (hb : 0 < b) :
    Calls Tryz.prog 63 #[.int .i64 n, .int .i64 b] w fun e w' => e = .returned (.int .i64 (-(-n / b))) ∧ w = w' := by
  have hd := ediv_bd (-n) b _ hb (by omega) (by omega) (by omega : (0:Int) ≤ 1000000000000000000)
  go_enter Tryz.func63, Tryz.ntmps63
  go_wp2_with (go_at_call 62; refine (floor_any _ _ _ (by omega) (by omega) (by omega)).mono ?_; rintro e w' ⟨rfl, rfl⟩)
  go_ret
  exact ⟨rfl, rfl⟩

def letter (c : Int) : Bool := (decide (97 ≤ c) && decide (c ≤ 122)) || (decide (65 ≤ c) && decide (c ≤ 90))
def charOk (i : Nat) (c : Int) : Bool := letter c || (decide (i ≠ 0) && (decide (c = 45) || (decide (48 ≤ c) && decide (c ≤ 57))))
def charsOk (l : List UInt8) : Bool := (List.range l.length).all fun i => charOk i ((l.getD i 0).toNat : Int)
def nameB (l : List UInt8) : Bool := decide (1 ≤ l.length) && decide (l.length ≤ 12) && charsOk l

theorem charsOk_of (l : List UInt8) (h : ∀ j, j < l.length → charOk j ((l.getD j 0).toNat : Int) = true) : charsOk l = true := by
  unfold charsOk; rw [List.all_eq_true]; intro j hj; exact h j (List.mem_range.1 hj)
theorem charsOk_not (l : List UInt8) (j : Nat) (hj : j < l.length) (h : charOk j ((l.getD j 0).toNat : Int) = false) : charsOk l = false := by
  unfold charsOk; rw [List.all_eq_false]; exact ⟨j, List.mem_range.2 hj, by rw [h]; decide⟩

theorem chars_more {l : List UInt8} {k : Nat} {c : UInt8} (h : Hid (∀ j, j < k → charOk j ((l.getD j 0).toNat : Int) = true)) (hc : Hid (l.getD k 0 = c)) (h2 : charOk k (c.toNat : Int) = true) :
    Hid (∀ j, j < k + 1 → charOk j ((l.getD j 0).toNat : Int) = true) := by
  intro j hj
  by_cases e : j = k
  · subst e; rw [hc.out]; exact h2
  · exact h.out j (by omega)
theorem name_not {l : List UInt8} {k n : Nat} {c : UInt8} (hl : Hid (l.length = n)) (hk : k < n) (hc : Hid (l.getD k 0 = c)) (h2 : charOk k (c.toNat : Int) = false) : nameB l = false := by
  unfold nameB; rw [charsOk_not l k (by rw [hl.out]; exact hk) (by rw [hc.out]; exact h2)]; simp
theorem ok_is (k : Nat) (c : Int) (h : (97 ≤ c ∧ c ≤ 122) ∨ (65 ≤ c ∧ c ≤ 90) ∨ (k ≠ 0 ∧ (c = 45 ∨ (48 ≤ c ∧ c ≤ 57)))) : charOk k c = true := by
  unfold charOk letter; simp only [Bool.or_eq_true, Bool.and_eq_true, decide_eq_true_eq]; omega
theorem ok_not (k : Nat) (c : Int) (h : ¬ ((97 ≤ c ∧ c ≤ 122) ∨ (65 ≤ c ∧ c ≤ 90) ∨ (k ≠ 0 ∧ (c = 45 ∨ (48 ≤ c ∧ c ≤ 57))))) : charOk k c = false := by
  rw [← Bool.not_eq_true]; unfold charOk letter; simp only [Bool.or_eq_true, Bool.and_eq_true, decide_eq_true_eq]; omega
theorem name_end (l : List UInt8) (n : Nat) (hl : l.length = n) (hcs : charsOk l = true) : nameB l = (!l.isEmpty && decide ((n : Int) ≤ 12)) := by
  unfold nameB; rw [hcs, Bool.and_true, ← hl]; cases l <;> simp; omega
theorem ret_bool {a b : Bool} (h : a = b) : Ending.returned (.bool a) = .returned (.bool b) := by rw [h]

set_option maxRecDepth 100000 in
set_option maxHeartbeats 1000000 in
theorem isName_any (s : ByteArray) (w : World) (hs : s.size ≤ 9223372036854775807) :
    Calls Tryz.prog 51 #[.string s] w fun e w' => e = .returned (.bool (nameB s.data.toList)) ∧ Below w.heap.size w w' := by
  have hconv := fun W : World => Lib.run_convert_string_bytes (P := Tryz.prog) W 9 94 5 s Tryz.underlying9 Tryz.underlying94 Tryz.underlying5
  have hB : Hid (Below w.heap.size w (Lib.bytesWorld w 5 s)) := ⟨rfl, rfl, rfl, by rw [Lib.bytesWorld_size]; omega, fun k hk => Lib.bytesWorld_at_old w 5 s k hk⟩
  have hlen : Hid (s.data.toList.length = s.size) := by simp [Hid]
  go_enter Tryz.func51, Tryz.ntmps51
  go_wp2
  clear hconv
  go_loop [9] (fun i => ∃ k : Nat, k ≤ s.size ∧ i = .int .i64 k ∧ Hid (∀ j, j < k → charOk j ((s.data.toList.getD j 0).toNat : Int) = true)) (fun i => s.size - (intOf i).toNat)
  case atStart => exact ⟨0, Nat.zero_le _, rfl, fun j hj => by omega⟩
  case round =>
    obtain ⟨k, hk, rfl, hok⟩ := hrel
    by_cases hlt : k < s.size
    · obtain ⟨c, hc⟩ : ∃ c : UInt8, s.data.toList.getD k 0 = c := ⟨_, rfl⟩
      have hcell := Lib.bytesWorld_cell w 5 s k hlt
      rw [hc] at hcell
      have hc' := Lib.hid hc
      clear hc
      have hb0 : (0 : Int) ≤ (c.toNat : Int) := by omega
      go_wp2
      all_goals first
        | (exfalso; simp at *; omega)
        | (go_round
           case rel => exact ⟨k + 1, by omega, by go_num, chars_more hok hc' (ok_is _ _ (by simp at *; omega))⟩
           case measure => simp [intOf]; omega)
        | (go_ret; exact ⟨ret_bool (name_not (k := k) hlen hlt hc' (ok_not _ _ (by simp at *; omega))).symm, hB.out⟩)
    · have hkk : k = s.size := by omega
      subst hkk
      by_cases he : s.toList = []
      all_goals
        go_wp2
        go_ret
        refine ⟨ret_bool ?_, hB.out⟩
        have hcs : charsOk s.data.toList = true := charsOk_of _ (fun j hj => hok.out j (by rw [hlen.out] at hj; exact hj))
        rw [name_end _ _ hlen.out hcs, ← ByteArray.toList_eq] <;> simp [he]
end Go.Proofs
