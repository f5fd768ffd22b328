import Derived.Test.YtjfdjjekonkgjaaHa
set_option linter.unusedSimpArgs false
set_option linter.unusedVariables false
namespace Go.Proofs
open Go.RowKit

def cmp1 (n m k : Int) : Int := if n < m / k then -1 else if m / k < n then 1 else if m - m / k * k = 0 then 0 else -1
set_option maxRecDepth 100000 in
set_option maxHeartbeats 1000000 in
theorem compare1_any (n m : Int) (w : World) (hn : -1000000000 ≤ n) (hn2 : n ≤ 1000000000) (hm : 0 ≤ m) (hm2 : m ≤ 1000000000) :
    Calls Try.prog 35 #[.int .i64 n, .int .i64 1, .int .i64 m, .int .i64 100000] w fun e w' => e = .returned (.int .i64 (cmp1 n m 100000)) ∧ w = w' := by
  have h1 := Lib.hid fun W => refFloor_any n 1 W (by omega) (by omega) (by omega)
  have h2 := Lib.hid fun W => refFloor_any m 100000 W (by omega) (by omega) (by omega)
  have e1 : n / 1 = n := by omega
  rw [e1] at h1
  unfold cmp1
  obtain ⟨q, hq⟩ : ∃ q, m / 100000 = q := ⟨_, rfl⟩
  have hq0 : 0 ≤ q := by omega
  have hq1 : q * 100000 ≤ m := by omega
  have hq2 : q ≤ 10000 := by omega
  rw [hq] at h2 ⊢
  clear e1 hq
  have en : n - n * 1 = 0 := by omega
  by_cases c1 : n < q
  · rw [if_pos c1]
    go_enter Try.func35, Try.ntmps35
    go_wp2_with fail
    refine wp_loop_rounds 1 ?_
    rw [rounds_succ]
    go_wp2_with (first | (go_at_call 75; refine Calls.mono (by with_reducible exact h1.out _) ?_; rintro e w' ⟨rfl, rfl⟩) | (go_at_call 75; refine Calls.mono (by with_reducible exact h2.out _) ?_; rintro e w' ⟨rfl, rfl⟩))
    go_ret
    exact ⟨rfl, rfl⟩
  rw [if_neg c1]
  by_cases c2 : q < n
  · rw [if_pos c2]
    go_enter Try.func35, Try.ntmps35
    go_wp2_with fail
    refine wp_loop_rounds 1 ?_
    rw [rounds_succ]
    go_wp2_with (first | (go_at_call 75; refine Calls.mono (by with_reducible exact h1.out _) ?_; rintro e w' ⟨rfl, rfl⟩) | (go_at_call 75; refine Calls.mono (by with_reducible exact h2.out _) ?_; rintro e w' ⟨rfl, rfl⟩))
    go_ret
    exact ⟨rfl, rfl⟩
  rw [if_neg c2]
  have hnq : n = q := by omega
  have hnq' := Lib.hid hnq
  clear hnq
  by_cases c3 : m - q * 100000 = 0
  · rw [if_pos c3]
    have c3' : (m - q * 100000 == 0) = true := by simpa using c3
    have c4 := Lib.hid c3
    clear c3
    go_enter Try.func35, Try.ntmps35
    go_wp2_with fail
    refine wp_loop_rounds 1 ?_
    rw [rounds_succ]
    go_wp2_with (first | (go_at_call 75; refine Calls.mono (by with_reducible exact h1.out _) ?_; rintro e w' ⟨rfl, rfl⟩) | (go_at_call 75; refine Calls.mono (by with_reducible exact h2.out _) ?_; rintro e w' ⟨rfl, rfl⟩))
    go_ret
    exact ⟨rfl, rfl⟩
  · rw [if_neg c3]
    have c3' : (m - q * 100000 == 0) = false := by simpa using c3
    go_enter Try.func35, Try.ntmps35
    go_wp2_with fail
    refine wp_loop_rounds 1 ?_
    rw [rounds_succ]
    go_wp2_with (first | (go_at_call 75; refine Calls.mono (by with_reducible exact h1.out _) ?_; rintro e w' ⟨rfl, rfl⟩) | (go_at_call 75; refine Calls.mono (by with_reducible exact h2.out _) ?_; rintro e w' ⟨rfl, rfl⟩))
    go_ret
    exact ⟨rfl, rfl⟩
theorem cmp1_ge {n m : Int} (h : m ≤ n * 100000) : 0 ≤ cmp1 n m 100000 := by
  unfold cmp1
  rw [if_neg (by omega)]
  split
  · omega
  · rw [if_pos (by omega)]
    omega
theorem cmp1_le {n m : Int} (h : n * 100000 ≤ m) : cmp1 n m 100000 ≤ 0 := by
  unfold cmp1
  split
  · omega
  · rw [if_neg (by omega)]
    split <;> omega
end Go.Proofs
