import Derived.Test.YtceiinlmblgdoaaGreatDoorD
import Derived.Test.YtceiinlmblgdoaaGreatDoorL
import Derived.Laws.FloatBits
import Derived.Laws.FloatArith
set_option linter.unusedSimpArgs false
set_option linter.unusedVariables false
namespace Go.Proofs
open Go.RowKit

theorem sqrt_enters (b r : Nat) (h : FloatKind.f64.format.sqrt b = some r) (w : World) :
    (callFunc 116 #[.float .f64 b]).run Tryz.prog w = .ok (.value (.float .f64 r)) w := by
  rw [run_callFunc_extern (e := Extern.MathSqrt.sqrt) Tryz.func116 (by kernel_rfl) (by kernel_rfl) (by kernel_rfl) (by kernel_rfl)]
  change ((match FloatKind.f64.format.sqrt b with
    | some r => pure (.float .f64 r)
    | none => do pure (.float .f64 (← choose (.nanBits .f64 b b))) : Sem Value).run Tryz.prog w).andThen _ = _
  rw [h]
  rfl

theorem sqrt_any (b r : Nat) (h : FloatKind.f64.format.sqrt b = some r) (w : World) :
    Calls Tryz.prog 111 #[.float .f64 b] w fun e w' => e = .returned (.float .f64 r) ∧ w = w' := by
  have hs := sqrt_enters b r h
  go_enter Tryz.func111, Tryz.ntmps111
  go_wp2
  go_ret
  exact ⟨rfl, rfl⟩

theorem convert_root (n : Int) (h0 : 0 ≤ n) (h1 : n < 1099511627776) : ∃ (F R : Nat) (r0 : Int), (∀ W, (convert 3 161 (.int .i64 n)).run Tryz.prog W = .ok (.float .f64 F) W) ∧ FloatKind.f64.format.sqrt F = some R ∧
    (∀ W, (convert 161 3 (.float .f64 R)).run Tryz.prog W = .ok (.int .i64 r0) W) ∧ 0 ≤ r0 ∧ r0 ≤ 8388608 := by
  obtain ⟨m, rfl⟩ := Int.eq_ofNat_of_zero_le h0
  obtain ⟨R, r, hR, hr, hr0, hr1⟩ := Ieee.sqrt_int m (by omega)
  refine ⟨FloatKind.f64.nearest (m : Int), R, r, fun W => ?_, ?_, fun W => ?_, hr0, hr1⟩
  · simp [convert, run_underlying Tryz.underlying3, run_underlying Tryz.underlying161, Conv.intToFloat]
  · have : FloatKind.f64.nearest (m : Int) = Ieee.double.nearest false m 0 := by
      unfold FloatKind.nearest FloatKind.encode
      simp only [FloatKind.format, Ieee.Format.write, Int.natAbs_natCast]
      rw [show decide ((m : Int) < 0) = false by simp]
    rw [this]
    exact hR
  · have hd : (FloatKind.f64.decode R).toInt .zero = some r := hr
    have hmin : IntKind.i64.min = -9223372036854775808 := by decide
    have hmax : IntKind.i64.max = 9223372036854775807 := by decide
    have hin1 : IntKind.i64.min ≤ r := by rw [hmin]; omega
    have hin2 : r ≤ 9223372036854775807 := by omega
    simp [convert, run_underlying Tryz.underlying3, run_underlying Tryz.underlying161, Conv.floatToInt, hd, hin1, hmax, hin2]

/-- The root of a number, rounded down. -/
def IsRoot (n r : Int) : Prop := 0 ≤ r ∧ r * r ≤ n ∧ n < (r + 1) * (r + 1)

theorem sq_mono {a b : Int} (h0 : 0 ≤ a) (h : a ≤ b) : a * a ≤ b * b := Int.mul_le_mul h h h0 (by omega)
theorem sq_lt {a b : Int} (h0 : 0 ≤ b) (h : a * a < b * b) : a < b := by
  rcases Int.lt_or_le a b with h1 | h1
  · exact h1
  · have := sq_mono h0 h1; omega
theorem root_unique {n r s : Int} (h : IsRoot n r) (k : IsRoot n s) : r = s := by
  obtain ⟨h0, h1, h2⟩ := h
  obtain ⟨k0, k1, k2⟩ := k
  have a1 : r < s + 1 := sq_lt (by omega) (by omega)
  have a2 : s < r + 1 := sq_lt (by omega) (by omega)
  omega
/-- The root, rounded up. -/
def up (n r : Int) : Int := if r * r = n then r else r + 1

set_option maxRecDepth 100000 in
set_option maxHeartbeats 1000000 in
theorem root_any (n : Int) (r : Int) (w : World) (h0 : 0 ≤ n) (h1 : n ≤ 1000000000) (hr : IsRoot n r) :
    Calls Tryz.prog 97 #[.int .i64 n] w fun e w' => e = .returned (.agg #[.int .i64 r, .int .i64 (up n r)]) ∧ Below w.heap.size w w' := by
  obtain ⟨F, R, r0, hF, hR, hB, hr0, hr1⟩ := convert_root n h0 (by omega)
  have hR' := Lib.hid hR
  have hr' := Lib.hid hr
  clear hR hr
  go_enter Tryz.func97, Tryz.ntmps97
  go_wp2_with (go_at_call 111; refine (sqrt_any _ _ hR'.out _).mono ?_; rintro e w' ⟨rfl, rfl⟩)
  clear hF hB
  go_loop [3] (fun s => ∃ r : Int, 0 ≤ r ∧ r ≤ 8388608 ∧ s = .int .i64 r) (fun s => (intOf s).toNat)
  case atStart => exact ⟨r0, hr0, hr1, rfl⟩
  case round =>
    obtain ⟨s, hs0, hs1, rfl⟩ := hrel
    have hss : 0 ≤ s * s ∧ s * s ≤ 8388608 * 8388608 := ⟨Int.mul_nonneg hs0 hs0, sq_mono hs0 hs1⟩
    obtain ⟨hss0, hss1⟩ := hss
    by_cases hlt : n < s * s
    · have hs2 : 0 < s := by
        rcases Int.lt_or_le 0 s with h | h
        · exact h
        · have : s = 0 := by omega
          subst this; omega
      go_wp2
      go_round
      case rel => exact ⟨s - 1, by omega, by omega, rfl⟩
      case measure => simp [intOf]; omega
    · have hle : Hid (s * s ≤ n) := by unfold Hid; omega
      go_wp2
      go_loop [3] (fun v => ∃ r : Int, 0 ≤ r ∧ r ≤ 8388608 ∧ v = .int .i64 r ∧ Hid (r * r ≤ n)) (fun v => (8388608 - intOf v).toNat)
      case atStart => exact ⟨s, hs0, hs1, rfl, hle⟩
      case round =>
        clear hss0 hss1 hlt hs0 hs1 hle
        obtain ⟨s, hs0, hs1, rfl, hle⟩ := hrel
        have hlo := hle.out
        have hs40 : s < 40000 := sq_lt (by omega) (by omega)
        have hss0 : 0 ≤ s * s := Int.mul_nonneg hs0 hs0
        have hss1 : s * s ≤ 40000 * 40000 := sq_mono hs0 (by omega)
        have hst0 : 0 ≤ (s + 1) * (s + 1) := Int.mul_nonneg (by omega) (by omega)
        have hst1 : (s + 1) * (s + 1) ≤ 40000 * 40000 := sq_mono (by omega) (by omega)
        by_cases hlt : (s + 1) * (s + 1) ≤ n
        · have hlt' := Lib.hid hlt
          go_wp2
          go_round
          case rel => exact ⟨s + 1, by omega, by omega, rfl, hlt'⟩
          case measure => simp [intOf]; omega
        · have hsr : s = r := root_unique ⟨hs0, hlo, by omega⟩ hr'.out
          by_cases he : s * s = n
          · have he' : (s * s == n) = true := by simp [he]
            have hup : up n r = r := by unfold up; rw [← hsr, if_pos he]
            have hup' := Lib.hid hup
            have hsr' := Lib.hid hsr
            clear hup hsr he
            go_wp2
            refine bodyPost_ret (v := .agg #[.int .i64 s, .int .i64 s]) ?_ rfl ⟨?_, ?_⟩
            · simp [results, Tryz.results97, go_sem]
            · rw [hup'.out, hsr'.out]
            · go_grown
          · have he' : (s * s == n) = false := by simp [he]
            have hup : up n r = r + 1 := by unfold up; rw [← hsr, if_neg he]
            have hup' := Lib.hid hup
            have hsr' := Lib.hid hsr
            clear hup hsr he
            go_wp2
            refine bodyPost_ret (v := .agg #[.int .i64 s, .int .i64 (s + 1)]) ?_ rfl ⟨?_, ?_⟩
            · simp [results, Tryz.results97, go_sem]
            · rw [hup'.out, hsr'.out]
            · go_grown
end Go.Proofs
