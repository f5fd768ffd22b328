import Derived.Test.YtjfdjjekonkgjaaP
set_option linter.unusedSimpArgs false
set_option linter.unusedVariables false
namespace Go.Proofs
open Go.RowKit

structure RootAt (n : Int) (r b : Value) : Prop where
  out : ∃ (t : Nat) (p rr : Int), r = .int .i64 rr ∧ b = .int .i64 (p / 2) ∧ p = 2 ^ t ∧ rootGo n t rr = rt n ∧ 0 ≤ rr ∧ rr + p ≤ 2147483648
theorem sq_bd31 (x : Int) (h0 : 0 ≤ x) (h1 : x ≤ 2147483648) : 0 ≤ x * x ∧ x * x ≤ 4611686018427387904 :=
  ⟨Int.mul_nonneg h0 h0, by have := Int.mul_le_mul h1 h1 h0 (by omega : (0 : Int) ≤ 2147483648); omega⟩

set_option maxRecDepth 100000 in
theorem refRoot_any (n : Int) (w : World) : Calls Try.prog 67 #[.int .i64 n] w fun e w' => e = .returned (.int .i64 (rt n)) ∧ w = w' := by
  obtain ⟨R, hR⟩ : ∃ R, rt n = R := ⟨_, rfl⟩
  rw [hR]
  have hR' := Lib.hid hR
  clear hR
  go_enter Try.func67, Try.ntmps67
  go_wp2
  go_loop [3, 4] (fun r b => RootAt n r b) (fun _ b => (intOf b).toNat)
  case atStart => exact ⟨31, 2147483648, 0, rfl, rfl, rfl, rfl, by omega, by omega⟩
  case round =>
    obtain ⟨t, p, rr, rfl, rfl, hp, hgo, h0, h1⟩ := hrel.out
    by_cases hpos : 0 < p / 2
    · obtain ⟨s, rfl⟩ : ∃ s, t = s + 1 := by
        cases t with
        | zero => rw [hp] at hpos; simp at hpos
        | succ s => exact ⟨s, rfl⟩
      obtain ⟨q, hq⟩ : ∃ q : Int, q = 2 ^ s := ⟨_, rfl⟩
      have hpq : p = 2 * q := by rw [hp, hq, Int.pow_succ]; omega
      have hp2 : p / 2 = q := by omega
      rw [hp2] at hpos ⊢
      unfold rootGo at hgo
      rw [← hq] at hgo
      have hsq := sq_bd31 (rr + q) (by omega) (by omega)
      by_cases hle : (rr + q) * (rr + q) ≤ n
      · rw [if_pos hle] at hgo
        have hgo' := Lib.hid hgo
        have hq' := Lib.hid hq
        clear hgo hrel hp hq
        go_wp2
        go_round
        case rel => exact ⟨s, q, rr + q, rfl, by first | rfl | (congr 1; omega), hq'.out, hgo'.out, by omega, by omega⟩
        case measure => simp [intOf]; omega
      · rw [if_neg hle] at hgo
        have hgo' := Lib.hid hgo
        have hq' := Lib.hid hq
        clear hgo hrel hp hq
        go_wp2
        go_round
        case rel => exact ⟨s, q, rr, rfl, by first | rfl | (congr 1; omega), hq'.out, hgo'.out, by omega, by omega⟩
        case measure => simp [intOf]; omega
    · obtain rfl : t = 0 := by
        cases t with
        | zero => rfl
        | succ s =>
          have : p = 2 * 2 ^ s := by rw [hp, Int.pow_succ]; omega
          have : (0 : Int) < 2 ^ s := Int.pow_pos (by omega)
          omega
      have e : p / 2 = 0 := by rw [hp]; decide
      rw [e]
      simp only [rootGo] at hgo
      have hgo2 : rr = R := hgo.trans hR'.out
      subst hgo2
      clear hgo hrel hp
      go_wp2
      go_ret
      exact ⟨rfl, rfl⟩
def upR (n : Int) : Int := if rt n * rt n < n then rt n + 1 else rt n
theorem upR_is (n : Int) (h0 : 0 ≤ n) (h1 : n ≤ 1000000000000000000) : upR n = up n (rt n) := by
  have h := rt_is n h0 h1
  unfold upR up
  have := h.2.1
  split <;> split <;> omega
theorem refRootUp_any (n : Int) (w : World) (h0 : 0 ≤ n) (h1 : n ≤ 4000000) : Calls Try.prog 68 #[.int .i64 n] w fun e w' => e = .returned (.int .i64 (upR n)) ∧ w = w' := by
  have h := rt_is n h0 (by omega)
  have hr := Lib.hid fun W => refRoot_any n W
  unfold upR
  generalize rt n = r at *
  obtain ⟨a, b, c⟩ := h
  have hr2 : r ≤ 2147483648 := by
    rcases Int.lt_or_le 2147483648 r with h | h
    · have := Int.mul_le_mul (Int.le_of_lt h) (Int.le_of_lt h) (by omega : (0 : Int) ≤ 2147483648) a
      omega
    · exact h
  have hsq : 0 ≤ r * r ∧ r * r ≤ 4000000 := ⟨Int.mul_nonneg a a, by omega⟩
  by_cases hlt : r * r < n
  · rw [if_pos hlt]
    go_enter Try.func68, Try.ntmps68
    go_wp2_with (go_at_call 67; refine (hr.out _).mono ?_; rintro e w1 ⟨rfl, rfl⟩)
    go_ret
    exact ⟨rfl, rfl⟩
  · rw [if_neg hlt]
    go_enter Try.func68, Try.ntmps68
    go_wp2_with (go_at_call 67; refine (hr.out _).mono ?_; rintro e w1 ⟨rfl, rfl⟩)
    go_ret
    exact ⟨rfl, rfl⟩
theorem refWidth_any (c y : Int) (w : World) (hc : -1000000 ≤ c) (hc2 : c ≤ 1000000) (h1 : -1000000 ≤ y) (h2 : y ≤ 1000000) : Calls Try.prog 66 #[.int .i64 c, .int .i64 y] w fun e w' => e = .returned (.int .i64 (wq c y)) ∧ w = w' := by
  have sq : ∀ x : Int, -1000000 ≤ x → x ≤ 1000000 → 0 ≤ x * x ∧ x * x ≤ 1000000000000 := fun x a b => by
    rcases Int.le_total 0 x with h | h
    · exact ⟨Int.mul_nonneg h h, by have := Int.mul_le_mul b b h (by omega : (0 : Int) ≤ 1000000); omega⟩
    · have e : x * x = (-x) * (-x) := by rw [Int.neg_mul_neg]
      rw [e]
      exact ⟨Int.mul_nonneg (by omega) (by omega), by have := Int.mul_le_mul (by omega : -x ≤ 1000000) (by omega : -x ≤ 1000000) (by omega) (by omega : (0 : Int) ≤ 1000000); omega⟩
  have a := sq c hc hc2
  have b := sq y h1 h2
  clear sq
  unfold wq
  go_enter Try.func66, Try.ntmps66
  go_wp2
  go_ret
  exact ⟨rfl, rfl⟩
theorem refAreaErr_any (r l : Int) (w : World) : Calls Try.prog 17 #[.int .i64 r, .int .i64 l] w fun e w' => e = .returned (.int .i64 (areaE r l)) ∧ w = w' := by
  unfold areaE
  cases h1 : within r 10 800
  · go_enter Try.func17, Try.ntmps17
    go_wp2_with (go_at_call 19; refine (refWithin_any _ _ _ _).mono ?_; rintro e w1 ⟨rfl, rfl⟩)
    go_ret
    exact ⟨rfl, rfl⟩
  · have h2 := within_true h1
    cases h3 : within l (-r) r
    all_goals
      go_enter Try.func17, Try.ntmps17
      go_wp2_with (go_at_call 19; refine (refWithin_any _ _ _ _).mono ?_; rintro e w1 ⟨rfl, rfl⟩)
      go_ret
      exact ⟨rfl, rfl⟩
end Go.Proofs
