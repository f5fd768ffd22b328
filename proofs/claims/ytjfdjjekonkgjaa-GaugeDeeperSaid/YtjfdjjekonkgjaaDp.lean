import Derived.Test.YtjfdjjekonkgjaaMa
import Derived.Test.YtjfdjjekonkgjaaZi
set_option linter.unusedSimpArgs false
set_option linter.unusedVariables false
namespace Go.Proofs
open Go.RowKit

theorem not_before {p : Nat → Bool} {h : Nat} (hp : ∀ i j, i ≤ j → p i = true → p j = true) (hf : p h = false) : ∀ k, k < h + 1 → p k = false := fun k hk => by
  cases hpk : p k
  · rfl
  · have := hp k h (by omega) hpk
    rw [hf] at this
    cases this
set_option maxRecDepth 100000 in
set_option maxHeartbeats 1000000 in
theorem search99 (n : Nat) (p1 p2 : Value) (p : Nat → Bool) (w : World) (hn : n ≤ 100000) (hp : ∀ i j, i ≤ j → p i = true → p j = true)
    (hc : ∀ (W : World) (i : Nat), Below w.heap.size w W → i < n → Calls Try.prog 99 #[.int .i64 i, p1, p2] W fun e W' => e = .returned (.bool (p i)) ∧ Below W.heap.size W W') :
    Calls Try.prog 98 #[.int .i64 n, .func (.func 99) #[] #[p1, p2]] w fun e w' => e = .returned (.int .i64 (fst p n)) ∧ Below w.heap.size w w' := by
  have hc' := Lib.hid hc
  have hF := Lib.hid (fst_is hp n)
  clear hc
  go_enter Try.func98, Try.ntmps98
  go_wp2_with fail
  go_loopw [5, 6] (fun i j wr => ∃ a b : Nat, a ≤ b ∧ b ≤ n ∧ i = .int .i64 a ∧ j = .int .i64 b ∧ Hid (∀ k, k < a → p k = false) ∧ Hid (∀ k, b ≤ k → k < n → p k = true) ∧ Below w.heap.size w wr) (fun i j _ => (intOf j - intOf i).toNat)
  case atStart => exact ⟨0, n, by omega, by omega, rfl, rfl, fun k hk => by omega, fun k h1 h2 => by omega, Below.refl _ _⟩
  case round =>
    obtain ⟨a, b, hab, hbn, rfl, rfl, hlo, hhi, hb⟩ := hrel
    by_cases hlt : a < b
    · have hC := Lib.hid (hc'.out wr ((a + b) / 2) hb (by omega))
      obtain ⟨B, hB⟩ : ∃ B, p ((a + b) / 2) = B := ⟨_, rfl⟩
      rw [hB] at hC
      have hB' := Lib.hid hB
      clear hB
      have e : (((a + b) / 2 : Nat) : Int) = ((a : Int) + (b : Int)) / 2 := by omega
      rw [e] at hC
      have e' := Lib.hid e
      clear e
      have hpm := Lib.hid hp
      clear hp
      cases B
      · go_wp2_with (go_at_call 99; refine hC.out.mono ?_; rintro e w1 ⟨rfl, hb1⟩; have hbw := via hb hb1)
        go_roundw
        case rel => exact ⟨(a + b) / 2 + 1, b, by omega, hbn, by rw [Int.natCast_add, e'.out]; rfl, rfl, not_before hpm.out hB'.out, hhi, hbw⟩
        case measure => simp [intOf]; omega
      · go_wp2_with (go_at_call 99; refine hC.out.mono ?_; rintro e w1 ⟨rfl, hb1⟩; have hbw := via hb hb1)
        go_roundw
        case rel => exact ⟨a, (a + b) / 2, by omega, by omega, rfl, by rw [e'.out], hlo, fun k h1 h2 => hpm.out _ _ h1 hB'.out, hbw⟩
        case measure => simp [intOf]; omega
    · have hab2 : a = b := by omega
      subst hab2
      have he := firstTrue_one hF.out ⟨hbn, hlo.out, hhi.out⟩
      go_wp2
      go_ret
      exact ⟨ret_int (by rw [he]), hb⟩
set_option maxRecDepth 100000 in
set_option maxHeartbeats 1000000 in
theorem search100 (n : Nat) (p1 p2 : Value) (p : Nat → Bool) (w : World) (hn : n ≤ 100000) (hp : ∀ i j, i ≤ j → p i = true → p j = true)
    (hc : ∀ (W : World) (i : Nat), Below w.heap.size w W → i < n → Calls Try.prog 100 #[.int .i64 i, p1, p2] W fun e W' => e = .returned (.bool (p i)) ∧ Below W.heap.size W W') :
    Calls Try.prog 98 #[.int .i64 n, .func (.func 100) #[] #[p1, p2]] w fun e w' => e = .returned (.int .i64 (fst p n)) ∧ Below w.heap.size w w' := by
  have hc' := Lib.hid hc
  have hF := Lib.hid (fst_is hp n)
  clear hc
  go_enter Try.func98, Try.ntmps98
  go_wp2_with fail
  go_loopw [5, 6] (fun i j wr => ∃ a b : Nat, a ≤ b ∧ b ≤ n ∧ i = .int .i64 a ∧ j = .int .i64 b ∧ Hid (∀ k, k < a → p k = false) ∧ Hid (∀ k, b ≤ k → k < n → p k = true) ∧ Below w.heap.size w wr) (fun i j _ => (intOf j - intOf i).toNat)
  case atStart => exact ⟨0, n, by omega, by omega, rfl, rfl, fun k hk => by omega, fun k h1 h2 => by omega, Below.refl _ _⟩
  case round =>
    obtain ⟨a, b, hab, hbn, rfl, rfl, hlo, hhi, hb⟩ := hrel
    by_cases hlt : a < b
    · have hC := Lib.hid (hc'.out wr ((a + b) / 2) hb (by omega))
      obtain ⟨B, hB⟩ : ∃ B, p ((a + b) / 2) = B := ⟨_, rfl⟩
      rw [hB] at hC
      have hB' := Lib.hid hB
      clear hB
      have e : (((a + b) / 2 : Nat) : Int) = ((a : Int) + (b : Int)) / 2 := by omega
      rw [e] at hC
      have e' := Lib.hid e
      clear e
      have hpm := Lib.hid hp
      clear hp
      cases B
      · go_wp2_with (go_at_call 100; refine hC.out.mono ?_; rintro e w1 ⟨rfl, hb1⟩; have hbw := via hb hb1)
        go_roundw
        case rel => exact ⟨(a + b) / 2 + 1, b, by omega, hbn, by rw [Int.natCast_add, e'.out]; rfl, rfl, not_before hpm.out hB'.out, hhi, hbw⟩
        case measure => simp [intOf]; omega
      · go_wp2_with (go_at_call 100; refine hC.out.mono ?_; rintro e w1 ⟨rfl, hb1⟩; have hbw := via hb hb1)
        go_roundw
        case rel => exact ⟨a, (a + b) / 2, by omega, by omega, rfl, by rw [e'.out], hlo, fun k h1 h2 => hpm.out _ _ h1 hB'.out, hbw⟩
        case measure => simp [intOf]; omega
    · have hab2 : a = b := by omega
      subst hab2
      have he := firstTrue_one hF.out ⟨hbn, hlo.out, hhi.out⟩
      go_wp2
      go_ret
      exact ⟨ret_int (by rw [he]), hb⟩
end Go.Proofs
