import Derived.Test.YtceiinlmblgdoaaGreatDoorCu
import Derived.Laws.IdiomStrings
set_option linter.unusedSimpArgs false
set_option linter.unusedVariables false
namespace Go.Proofs
open Go.RowKit

theorem size_any (n : Int) (w : World) (h : -1000 ≤ n ∧ n ≤ 1000) : Calls Tryz.prog 53 #[.int .i64 n] w fun e w' => e = .returned (.int .i64 (n.natAbs : Int)) ∧ w = w' := by
  obtain ⟨h1, h2⟩ := h
  go_enter Tryz.func53, Tryz.ntmps53
  go_wp2
  all_goals
    go_ret
    exact ⟨ret_int (by omega), rfl⟩
theorem dig_step (v : Nat) (hv : v ≠ 0) (r : List UInt8) : (if v < 10 then [] else Lib.decDigits (v / 10)) ++ (UInt8.ofNat (48 + v % 10) :: r) = Lib.decDigits v ++ r := by
  by_cases h : v < 10
  · rw [if_pos h]
    conv => rhs; rw [Lib.decDigits, dif_pos h]
    rw [Nat.mod_eq_of_lt h]
    rfl
  · rw [if_neg h]
    conv => rhs; rw [Lib.decDigits, dif_neg h]
    simp
/-- What is still to come of a number's digits. -/
def digs (v : Nat) : List UInt8 := if v = 0 then [] else Lib.decDigits v
theorem digs_step (v : Nat) (hv : v ≠ 0) (r : List UInt8) : digs (v / 10) ++ (UInt8.ofNat (48 + v % 10) :: r) = digs v ++ r := by
  have := dig_step v hv r
  unfold digs
  rw [if_neg hv, ← this]
  congr 1
  by_cases h : v < 10
  · rw [if_pos h, if_pos (by omega)]
  · rw [if_neg h, if_neg (by omega)]
theorem conv_byte (x : World) (c : UInt8) : (convert 94 9 (.slice (some ⟨x.heap.size, 0, none⟩) 1 1)).run Tryz.prog (x.alloc (.cells #[.int .u8 c.toNat] 5)) = .ok (.string (bs [c])) (x.alloc (.cells #[.int .u8 c.toNat] 5)) := by
  refine run_convert_bytes_back (x.alloc (.cells #[.int .u8 c.toNat] 5)) 94 9 5 ⟨x.heap.size, 0, none⟩ 1 [c] Tryz.underlying94 Tryz.underlying5 Tryz.underlying9 ?_
  intro j hj
  have h0 : j = 0 := by simp at hj; omega
  subst h0
  exact cells_new x [.int .u8 c.toNat] 5 0 _ rfl
theorem conv_dig (v : Nat) (x : World) : (convert 94 9 (.slice (some ⟨x.heap.size, 0, none⟩) 1 1)).run Tryz.prog (x.alloc (.cells #[.int .u8 (48 + (v : Int) % 10)] 5)) = .ok (.string (bs [UInt8.ofNat (48 + v % 10)])) (x.alloc (.cells #[.int .u8 (48 + (v : Int) % 10)] 5)) := by
  have h := conv_byte x (UInt8.ofNat (48 + v % 10))
  have e : (((UInt8.ofNat (48 + v % 10)).toNat : Nat) : Int) = 48 + (v : Int) % 10 := by rw [dig_toNat _ (by omega)]; omega
  rw [e] at h
  exact h
theorem decDigits_len : ∀ (k u : Nat), 1 ≤ k → u < 10 ^ k → (Lib.decDigits u).length ≤ k
  | 0, u, h, _ => by omega
  | k + 1, u, _, h => by
    by_cases hu : u < 10
    · rw [Lib.decDigits, dif_pos hu]; simp
    · rw [Lib.decDigits, dif_neg hu, List.length_append]
      have hk : 1 ≤ k := by
        rcases Nat.eq_zero_or_pos k with h0 | h0
        · subst h0; omega
        · exact h0
      rw [Nat.pow_succ] at h
      have := decDigits_len k (u / 10) hk (by omega)
      simp
      omega
theorem digs_len {u : Nat} (h : u ≤ 9223372036854775808) : (digs u).length ≤ 19 := by
  unfold digs
  split
  · simp
  · exact decDigits_len 19 u (by decide) (by omega)
theorem bs_size (l : List UInt8) : (bs l).size = l.length := by simp [bs, ByteArray.size]
theorem itoa_zero : Lib.itoa 0 = [48] := by
  unfold Lib.itoa
  rw [if_neg (by decide), Lib.decDigits, dif_pos (by decide)]
  rfl
theorem itoa_neg (u : Nat) (hu : u ≠ 0) : Lib.itoa (-(u : Int)) = 45 :: digs u := by
  unfold Lib.itoa digs
  rw [if_pos (by omega), if_neg hu, show (-(u : Int)).natAbs = u by omega]
theorem itoa_pos (u : Nat) (hu : u ≠ 0) : Lib.itoa (u : Int) = digs u := by
  unfold Lib.itoa digs
  rw [if_neg (by omega), if_neg hu, show ((u : Int)).toNat = u by omega]
theorem bs_append (a b : List UInt8) : bs a ++ bs b = bs (a ++ b) := by
  unfold bs
  apply ByteArray.ext
  simp
set_option maxRecDepth 100000 in
set_option maxHeartbeats 4000000 in
theorem decimal_any (n : Int) (w : World) (h0 : -9223372036854775808 ≤ n) (h1 : n ≤ 9223372036854775807) :
    Calls Tryz.prog 24 #[.int .i64 n] w fun e w' => e = .returned (.string (bs (Lib.itoa n))) ∧ Below w.heap.size w w' := by
  by_cases hz : n = 0
  · have z1 : (n == 0) = true := by simp [hz]
    rw [hz] at *
    go_enter Tryz.func24, Tryz.ntmps24
    go_wp2
    go_ret
    rw [itoa_zero]
    exact ⟨rfl, Below.refl _ _⟩
  have z1 : (n == 0) = false := by simp [hz]
  by_cases hn : n < 0
  · obtain ⟨u, rfl⟩ : ∃ u : Nat, n = -(u : Int) := ⟨n.natAbs, by omega⟩
    have hpu : 0 < u := by omega
    go_enter Tryz.func24, Tryz.ntmps24
    go_wp2
    go_loopw [0, 3, 5] (fun a r d wr => ∃ (v : Nat) (t : List UInt8), v ≤ 9223372036854775808 ∧ a = .int .i64 (-(v : Int)) ∧ r = .string (bs t) ∧ Below w.heap.size w wr ∧ Hid (digs v ++ t = digs u)) (fun a _ _ _ => (intOf a).natAbs)
    case atStart => exact ⟨u, [], by omega, rfl, rfl, Below.refl _ _, by unfold Hid; simp⟩
    case round =>
      obtain ⟨v, t, hv, rfl, rfl, hbw, hd⟩ := hrel
      have htl : t.length ≤ 19 := by
        have h1 := congrArg List.length hd.out
        rw [List.length_append] at h1
        have := digs_len (u := u) (by omega)
        omega
      have hb1 : ¬ 9223372036854775807 < 1 + (bs t).size := by rw [bs_size]; omega
      have hb0 : ¬ 9223372036854775807 < (bs t).size := by rw [bs_size]; omega
      by_cases h0 : v = 0
      · have z2 : (-(v : Int) != 0) = false := by simp [h0]
        have hd' : Hid (t = digs u) := by
          have := hd.out
          rw [h0] at this
          exact this
        clear h0
        go_wp2
        go_ret
        refine ⟨?_, hbw⟩
        rw [itoa_neg u (by omega), ← hd'.out]
        show Ending.returned (.string (bs [45] ++ bs t)) = _
        rw [bs_append]
        rfl
      · have z2 : (-(v : Int) != 0) = true := by rw [bne_iff_ne]; omega
        have e1 : (-(v : Int)).tmod 10 = -((v % 10 : Nat) : Int) := by (rw [Int.neg_tmod]; rfl)
        have e2 : (-(v : Int)).tdiv 10 = -((v / 10 : Nat) : Int) := by (rw [Int.neg_tdiv]; rfl)
        have hSz := Lib.hid fun W => size_any (-((v % 10 : Nat) : Int)) W (by omega)
        rw [show ((-((v % 10 : Nat) : Int)).natAbs) = v % 10 by omega] at hSz
        have hcv := conv_dig v
        have hst := Lib.hid (digs_step v h0 t)
        obtain ⟨c, hc⟩ : ∃ c, UInt8.ofNat (48 + v % 10) = c := ⟨_, rfl⟩
        rw [hc] at hcv hst
        clear hc
        have hb2 : ¬ 9223372036854775807 < (bs [c]).size + (bs t).size := by rw [bs_size, bs_size]; simp; omega
        have hv9 : v / 10 ≤ 9223372036854775808 := by omega
        go_wp2_with (go_at_call 53; refine (hSz.out _).mono ?_; rintro e w' ⟨rfl, rfl⟩)
        go_roundw
        case rel => exact ⟨v / 10, _ :: t, hv9, by go_num, by rw [bs_append]; rfl, via_alloc hbw _, by unfold Hid; rw [hst.out]; exact hd.out⟩
        case measure => simp [intOf]; omega
  · obtain ⟨u, rfl⟩ : ∃ u : Nat, n = (u : Int) := ⟨n.natAbs, by omega⟩
    go_enter Tryz.func24, Tryz.ntmps24
    go_wp2
    go_loopw [0, 3, 5] (fun a r d wr => ∃ (v : Nat) (t : List UInt8), v ≤ 9223372036854775808 ∧ a = .int .i64 (v : Int) ∧ r = .string (bs t) ∧ Below w.heap.size w wr ∧ Hid (digs v ++ t = digs u)) (fun a _ _ _ => (intOf a).natAbs)
    case atStart => exact ⟨u, [], by omega, rfl, rfl, Below.refl _ _, by unfold Hid; simp⟩
    case round =>
      obtain ⟨v, t, hv, rfl, rfl, hbw, hd⟩ := hrel
      have htl : t.length ≤ 19 := by
        have h1 := congrArg List.length hd.out
        rw [List.length_append] at h1
        have := digs_len (u := u) (by omega)
        omega
      have hb1 : ¬ 9223372036854775807 < 1 + (bs t).size := by rw [bs_size]; omega
      have hb0 : ¬ 9223372036854775807 < (bs t).size := by rw [bs_size]; omega
      by_cases h0 : v = 0
      · have z2 : ((v : Int) != 0) = false := by simp [h0]
        have hd' : Hid (t = digs u) := by
          have := hd.out
          rw [h0] at this
          exact this
        clear h0
        go_wp2
        go_ret
        refine ⟨?_, hbw⟩
        rw [itoa_pos u (by omega), ← hd'.out]
        show Ending.returned (.string (bs [] ++ bs t)) = _
        rw [bs_append]
        rfl
      · have z2 : ((v : Int) != 0) = true := by rw [bne_iff_ne]; omega
        have e1 : ((v : Int)).tmod 10 = ((v % 10 : Nat) : Int) := by rfl
        have e2 : ((v : Int)).tdiv 10 = ((v / 10 : Nat) : Int) := by rfl
        have hSz := Lib.hid fun W => size_any (((v % 10 : Nat) : Int)) W (by omega)
        rw [show ((((v % 10 : Nat) : Int)).natAbs) = v % 10 by omega] at hSz
        have hcv := conv_dig v
        have hst := Lib.hid (digs_step v h0 t)
        obtain ⟨c, hc⟩ : ∃ c, UInt8.ofNat (48 + v % 10) = c := ⟨_, rfl⟩
        rw [hc] at hcv hst
        clear hc
        have hb2 : ¬ 9223372036854775807 < (bs [c]).size + (bs t).size := by rw [bs_size, bs_size]; simp; omega
        have hv9 : v / 10 ≤ 9223372036854775808 := by omega
        go_wp2_with (go_at_call 53; refine (hSz.out _).mono ?_; rintro e w' ⟨rfl, rfl⟩)
        go_roundw
        case rel => exact ⟨v / 10, _ :: t, hv9, by go_num, by rw [bs_append]; rfl, via_alloc hbw _, by unfold Hid; rw [hst.out]; exact hd.out⟩
        case measure => simp [intOf]; omega
end Go.Proofs
