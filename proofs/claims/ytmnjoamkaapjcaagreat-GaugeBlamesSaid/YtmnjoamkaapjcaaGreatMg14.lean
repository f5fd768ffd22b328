import Ieee.Arith
import Derived.Test.YtmnjoamkaapjcaaGreatMg2
import Derived.Laws.FloatBits
import Derived.Laws.FloatArith
set_option linter.unusedSimpArgs false
set_option linter.unusedVariables false
namespace Ieee
/-! The square root of a whole number below 2 ^ 40, as a double, is a number from 0 to 2 ^ 31. -/

theorem d_least : double.leastPlace = -1074 := by decide
theorem d_binade : double.binade = 4503599627370496 := by decide
theorem d_inf : double.infRung = 9218868437227405312 := by decide
theorem d_sign : double.signWeight = 9223372036854775808 := by decide
theorem d_frac : double.fractionBits = 52 := rfl

theorem lt_pow_log2 (n : Nat) : n < 2 ^ (n.log2 + 1) := Nat.lt_log2_self
theorem pow_log2_le {n : Nat} (h : n ≠ 0) : 2 ^ n.log2 ≤ n := Nat.log2_self_le h

/-- What a rung of a normal number stands for. -/
theorem read_normal (e k : Nat) (hk : 4503599627370496 ≤ k) (hk2 : k < 9007199254740992) (he : e ≤ 2000) :
    double.read (e * 4503599627370496 + k) = .number false k (-1074 + (e : Int)) := by
  unfold Format.read
  rw [d_least, d_binade, d_inf, d_sign]
  have hlt : e * 4503599627370496 + k < 9218868437227405312 := by omega
  have h1 : (e * 4503599627370496 + k) / 9223372036854775808 % 2 = 0 := by omega
  have h2 : (e * 4503599627370496 + k) % 9223372036854775808 = e * 4503599627370496 + k := by omega
  simp only [h1, h2]
  have h3 : ¬ e * 4503599627370496 + k < 4503599627370496 := by omega
  have h4 : (e * 4503599627370496 + k) % 4503599627370496 = k - 4503599627370496 := by omega
  have h5 : (e * 4503599627370496 + k) / 4503599627370496 - 1 = e := by omega
  rw [if_neg h3, if_pos hlt, h4, h5]
  have h6 : 4503599627370496 + (k - 4503599627370496) = k := by omega
  rw [h6]
  simp

theorem cut_zero (way : Toward) (n : Nat) (neg : Bool) : way.cut neg n 0 = n := by
  unfold Toward.cut
  simp only [Nat.zero_min, Nat.shiftLeft_zero, Nat.div_one, Nat.mod_one]
  cases way <;> simp

/-- A number that is not too great nor too small, written. -/
theorem nearest_small (m : Nat) (p : Int) (h0 : m ≠ 0) (hp : -1000 ≤ p + (m.log2 : Int) - 52) (hp2 : p + (m.log2 : Int) - 52 ≤ 900) :
    ∃ k, 4503599627370496 ≤ k ∧ k ≤ 9007199254740992 ∧ double.nearest false m p = (p + (m.log2 : Int) - 52 + 1074).toNat * 4503599627370496 + k := by
  unfold Format.nearest
  rw [if_neg h0, d_least, d_binade, d_inf, d_frac]
  have hmax : max (p + (m.log2 : Int) - 52) (-1074) = p + (m.log2 : Int) - 52 := by omega
  have hmax' : max (p + (m.log2 : Int) - ((52 : Nat) : Int)) (-1074) = p + (m.log2 : Int) - 52 := by omega
  simp only [hmax']
  have hlo := pow_log2_le h0
  have hhi := lt_pow_log2 m
  generalize m.log2 = L at *
  have key : 4503599627370496 ≤ Toward.even.cut false (m <<< (p - (p + (L : Int) - 52)).toNat) (p + (L : Int) - 52 - p).toNat ∧ Toward.even.cut false (m <<< (p - (p + (L : Int) - 52)).toNat) (p + (L : Int) - 52 - p).toNat ≤ 9007199254740992 := by
    by_cases hL : L ≤ 52
    · have h1 : (p - (p + (L : Int) - 52)).toNat = 52 - L := by omega
      have h2 : (p + (L : Int) - 52 - p).toNat = 0 := by omega
      rw [h1, h2, cut_zero, Nat.shiftLeft_eq]
      have e : 2 ^ L * 2 ^ (52 - L) = 4503599627370496 := by rw [← Nat.pow_add, show L + (52 - L) = 52 by omega]
      have e2 : 2 ^ (L + 1) * 2 ^ (52 - L) = 9007199254740992 := by rw [← Nat.pow_add, show L + 1 + (52 - L) = 53 by omega]
      have a1 := Nat.mul_le_mul_right (2 ^ (52 - L)) hlo
      have a2 := Nat.mul_le_mul_right (2 ^ (52 - L)) (Nat.le_of_lt hhi)
      omega
    · have h1 : (p - (p + (L : Int) - 52)).toNat = 0 := by omega
      have h2 : (p + (L : Int) - 52 - p).toNat = L - 52 := by omega
      rw [h1, h2, Nat.shiftLeft_zero]
      unfold Toward.cut
      have hl2 : m.log2 = L := by
        have a1 := (Nat.le_log2 h0 (k := L)).2 hlo
        have a2 := (Nat.log2_lt h0).2 hhi
        omega
      have hmin : min (L - 52) (m.log2 + 2) = L - 52 := by omega
      simp only [hmin, Nat.one_shiftLeft]
      have e : 2 ^ (L - 52) * 4503599627370496 = 2 ^ L := by rw [show (4503599627370496 : Nat) = 2 ^ 52 by decide, ← Nat.pow_add, show L - 52 + 52 = L by omega]
      have e2 : 2 ^ (L - 52) * 9007199254740992 = 2 ^ (L + 1) := by rw [show (9007199254740992 : Nat) = 2 ^ 53 by decide, ← Nat.pow_add, show L - 52 + 53 = L + 1 by omega]
      have hg : 0 < 2 ^ (L - 52) := Nat.two_pow_pos _
      have d1 : 4503599627370496 ≤ m / 2 ^ (L - 52) := (Nat.le_div_iff_mul_le hg).2 (by rw [Nat.mul_comm, e]; exact hlo)
      have d2 : m / 2 ^ (L - 52) < 9007199254740992 := (Nat.div_lt_iff_lt_mul hg).2 (by rw [Nat.mul_comm, e2]; exact hhi)
      generalize m / 2 ^ (L - 52) = q at *
      have hb : ∀ b : Bool, b.toNat ≤ 1 := by decide
      have hb1 := hb (decide (2 ^ (L - 52) < 2 * (m % 2 ^ (L - 52))) || (2 ^ (L - 52) == 2 * (m % 2 ^ (L - 52)) && q % 2 == 1))
      omega
  refine ⟨_, key.1, key.2, ?_⟩
  unfold Format.word
  rw [if_neg (by decide), Int.sub_neg, Nat.min_eq_left (by omega)]

theorem rootFrom_le (n : Nat) : ∀ (todo r : Nat), r * r ≤ n → Datum.rootFrom n todo r * Datum.rootFrom n todo r ≤ n
  | 0, r, h => h
  | t + 1, r, h => by
    unfold Datum.rootFrom
    dsimp only
    split
    · rename_i h2; exact rootFrom_le n t _ h2
    · exact rootFrom_le n t _ h

/-- A whole number, written and read. -/
theorem read_whole (n : Nat) (h0 : n ≠ 0) (h : n < 2 ^ 40) :
    ∃ k L : Nat, L ≤ 39 ∧ 4503599627370496 ≤ k ∧ k < 9007199254740992 ∧ double.read (double.nearest false n 0) = .number false k ((L : Int) - 52) := by
  have hlo := pow_log2_le h0
  have hhi := lt_pow_log2 n
  have hL : n.log2 ≤ 39 := by have := (Nat.log2_lt h0).2 h; omega
  have hk : double.nearest false n 0 = (n.log2 + 1022) * 4503599627370496 + n * 2 ^ (52 - n.log2) := by
    unfold Format.nearest
    rw [if_neg h0, d_least, d_binade, d_inf, d_frac]
    have hmax' : max ((0 : Int) + (n.log2 : Int) - ((52 : Nat) : Int)) (-1074) = (n.log2 : Int) - 52 := by omega
    simp only [hmax']
    have h1 : ((0 : Int) - ((n.log2 : Int) - 52)).toNat = 52 - n.log2 := by omega
    have h2 : ((n.log2 : Int) - 52 - 0).toNat = 0 := by omega
    have h3 : ((n.log2 : Int) - 52 - -1074).toNat = n.log2 + 1022 := by omega
    rw [h1, h2, h3, cut_zero, Nat.shiftLeft_eq]
    unfold Format.word
    rw [if_neg (by decide), Nat.min_eq_left]
    have e2 : 2 ^ (n.log2 + 1) * 2 ^ (52 - n.log2) = 9007199254740992 := by rw [← Nat.pow_add, show n.log2 + 1 + (52 - n.log2) = 53 by omega]
    have a2 := Nat.mul_le_mul_right (2 ^ (52 - n.log2)) (Nat.le_of_lt hhi)
    omega
  have e : 2 ^ n.log2 * 2 ^ (52 - n.log2) = 4503599627370496 := by rw [← Nat.pow_add, show n.log2 + (52 - n.log2) = 52 by omega]
  have e2 : 2 ^ (n.log2 + 1) * 2 ^ (52 - n.log2) = 9007199254740992 := by rw [← Nat.pow_add, show n.log2 + 1 + (52 - n.log2) = 53 by omega]
  have a1 := Nat.mul_le_mul_right (2 ^ (52 - n.log2)) hlo
  have a2 := Nat.mul_lt_mul_of_pos_right hhi (Nat.two_pow_pos (52 - n.log2))
  refine ⟨n * 2 ^ (52 - n.log2), n.log2, hL, by omega, by omega, ?_⟩
  rw [hk, read_normal _ _ (by omega) (by omega) (by omega)]
  rw [show (-1074 : Int) + ((n.log2 + 1022 : Nat) : Int) = (n.log2 : Int) - 52 by omega]

theorem sqrt_whole (n : Nat) (h0 : n ≠ 0) (h : n < 2 ^ 40) :
    ∃ R m p, double.sqrt (double.nearest false n 0) = some R ∧ double.read R = .number false m p ∧ m ≤ 9007199254740992 ∧ p ≤ -30 ∧ -500 ≤ p := by
  obtain ⟨k, L, hL, hk1, hk2, hr⟩ := read_whole n h0 h
  unfold Format.sqrt
  rw [hr]
  have hk0 : k ≠ 0 := by omega
  have hlog : k.log2 = 52 := by
    have a1 := (Nat.le_log2 hk0 (k := 52)).2 (by omega)
    have a2 := (Nat.log2_lt hk0 (k := 53)).2 (by omega)
    omega
  unfold Datum.root
  simp only [if_neg hk0, if_neg (show ¬ (false = true) by decide), d_frac, hlog]
  generalize hmore : 2 * (52 + 2) - 52 + (((L : Int) - 52 - ((2 * (52 + 2) - 52 : Nat) : Int)) % 2).toNat = more
  have hm1 : 56 ≤ more ∧ more ≤ 57 := by omega
  generalize hw : Datum.rootFrom (k <<< more) ((k <<< more).log2 / 2 + 1) 0 = whole
  have hle : whole * whole ≤ k <<< more := by rw [← hw]; exact rootFrom_le _ _ _ (by simp)
  rw [Nat.shiftLeft_eq] at hle
  have hpow : 2 ^ more ≤ 2 ^ 57 := Nat.pow_le_pow_right (by omega) hm1.2
  have hprod : k * 2 ^ more ≤ 9007199254740991 * 2 ^ 57 := Nat.mul_le_mul (by omega) hpow
  have hwl : whole < 36028797018963968 := by
    rcases Nat.lt_or_ge whole 36028797018963968 with h1 | h1
    · exact h1
    · have := Nat.mul_le_mul h1 h1
      omega
  have hpos : 0 < k * 2 ^ more := Nat.mul_pos (by omega) (Nat.two_pow_pos _)
  have hb : ∀ b : Bool, b.toNat ≤ 1 := by decide
  have hb1 := hb (whole * whole != k <<< more)
  have hM0 : 2 * whole + (whole * whole != k <<< more).toNat ≠ 0 := by
    intro h1
    have hw0 : whole = 0 := by omega
    rw [hw0, Nat.shiftLeft_eq] at h1
    have : (0 * 0 != k * 2 ^ more) = true := by rw [bne_iff_ne]; omega
    rw [this] at h1
    simp at h1
  generalize (whole * whole != k <<< more).toNat = b at *
  have hML : (2 * whole + b).log2 ≤ 56 := by
    have := (Nat.log2_lt hM0 (k := 57)).2 (by omega)
    omega
  obtain ⟨k', hk1', hk2', hn⟩ := nearest_small (2 * whole + b) (((L : Int) - 52 - more) / 2 - 1) hM0 (by omega) (by omega)
  generalize (2 * whole + b).log2 = M at *
  simp only [Option.map_some, Format.write]
  rw [hn]
  rcases Nat.lt_or_ge k' 9007199254740992 with h1 | h1
  · refine ⟨_, _, _, rfl, read_normal _ _ hk1' h1 (by omega), by omega, by omega, by omega⟩
  · have : k' = 9007199254740992 := by omega
    subst this
    generalize hE : ((L : Int) - 52 - more) / 2 - 1 + (M : Int) - 52 + 1074 = E
    refine ⟨E.toNat * 4503599627370496 + 9007199254740992, 4503599627370496, -1074 + ((E.toNat + 1 : Nat) : Int), rfl, ?_, ?_, ?_, ?_⟩
    · have e : E.toNat * 4503599627370496 + 9007199254740992 = (E.toNat + 1) * 4503599627370496 + 4503599627370496 := by omega
      rw [e]
      exact read_normal _ _ (by omega) (by omega) (by omega)
    · omega
    · omega
    · omega

theorem cut_down (m d : Nat) (hm : m ≤ 9007199254740992) (hd : 30 ≤ d) : Toward.zero.cut false m d ≤ 8388608 := by
  unfold Toward.cut
  simp only [Bool.toNat_false, Nat.add_zero, Nat.one_shiftLeft]
  rcases Nat.le_total d (m.log2 + 2) with h | h
  · rw [Nat.min_eq_left h]
    have h1 : 2 ^ 30 ≤ 2 ^ d := Nat.pow_le_pow_right (by omega) hd
    refine Nat.le_trans (Nat.div_le_div_left h1 (by decide)) ?_
    omega
  · rw [Nat.min_eq_right h]
    have h1 := lt_pow_log2 m
    have h2 : 2 ^ (m.log2 + 1) ≤ 2 ^ (m.log2 + 2) := Nat.pow_le_pow_right (by omega) (by omega)
    rw [Nat.div_eq_of_lt (by omega)]
    omega

/-- THE ROOT OF A WHOLE NUMBER, AS AN INTEGER: from 0 to 2 ^ 23. -/
theorem sqrt_int (n : Nat) (h : n < 2 ^ 40) : ∃ (R : Nat) (r : Int), double.sqrt (double.nearest false n 0) = some R ∧ (double.read R).toInt .zero = some r ∧ 0 ≤ r ∧ r ≤ 8388608 := by
  by_cases h0 : n = 0
  · subst h0
    exact ⟨0, 0, by decide, by decide, by decide, by decide⟩
  · obtain ⟨R, m, p, hR, hr, hm, hp, _⟩ := sqrt_whole n h0 h
    refine ⟨R, _, hR, by rw [hr]; rfl, ?_, ?_⟩
    · unfold signed; simp
    · unfold signed
      have hp0 : p.toNat = 0 := by omega
      have := cut_down m (-p).toNat hm (by omega)
      simp only [hp0, Nat.shiftLeft_zero]
      simp only [Bool.false_eq_true, if_false]
      omega
end Ieee

set_option linter.unusedSimpArgs false
set_option linter.unusedVariables false
namespace Go.Proofs
open Go.RowKit

theorem sqrt_enters (b r : Nat) (h : FloatKind.f64.format.sqrt b = some r) (w : World) :
    (callFunc 109 #[.float .f64 b]).run Tryz.prog w = .ok (.value (.float .f64 r)) w := by
  rw [run_callFunc_extern (e := Extern.MathSqrt.sqrt) Tryz.func109 (by kernel_rfl) (by kernel_rfl) (by kernel_rfl) (by kernel_rfl)]
  change ((match FloatKind.f64.format.sqrt b with
    | some r => pure (.float .f64 r)
    | none => do pure (.float .f64 (← choose (.nanBits .f64 b b))) : Sem Value).run Tryz.prog w).andThen _ = _
  rw [h]
  rfl

theorem sqrt_any (b r : Nat) (h : FloatKind.f64.format.sqrt b = some r) (w : World) :
    Calls Tryz.prog 108 #[.float .f64 b] w fun e w' => e = .returned (.float .f64 r) ∧ w = w' := by
  have hs := sqrt_enters b r h
  go_enter Tryz.func108, Tryz.ntmps108
  go_wp2
  go_ret
  exact ⟨rfl, rfl⟩

theorem convert_root (n : Int) (h0 : 0 ≤ n) (h1 : n < 1099511627776) : ∃ (F R : Nat) (r0 : Int), (∀ W, (convert 3 151 (.int .i64 n)).run Tryz.prog W = .ok (.float .f64 F) W) ∧ FloatKind.f64.format.sqrt F = some R ∧
    (∀ W, (convert 151 3 (.float .f64 R)).run Tryz.prog W = .ok (.int .i64 r0) W) ∧ 0 ≤ r0 ∧ r0 ≤ 8388608 := by
  obtain ⟨m, rfl⟩ := Int.eq_ofNat_of_zero_le h0
  obtain ⟨R, r, hR, hr, hr0, hr1⟩ := Ieee.sqrt_int m (by omega)
  refine ⟨FloatKind.f64.nearest (m : Int), R, r, fun W => ?_, ?_, fun W => ?_, hr0, hr1⟩
  · simp [convert, run_underlying Tryz.underlying3, run_underlying Tryz.underlying151, Conv.intToFloat]
  · have : FloatKind.f64.nearest (m : Int) = Ieee.double.nearest false m 0 := by
      unfold FloatKind.nearest FloatKind.encode
      simp only [FloatKind.format, Ieee.Format.write, Int.natAbs_natCast]
      rw [show decide ((m : Int) < 0) = false by simp]
    rw [this]
    exact hR
  · have hd : (FloatKind.f64.decode R).toInt .zero = some r := hr
    have hmin : IntKind.i64.min = -9223372036854775808 := by decide
    have hmax : IntKind.i64.max = 9223372036854775807 := by decide
    have hin1 : IntKind.i64.min ≤ r := by rw [hmin]; omega
    have hin2 : r ≤ 9223372036854775807 := by omega
    simp [convert, run_underlying Tryz.underlying3, run_underlying Tryz.underlying151, Conv.floatToInt, hd, hin1, hmax, hin2]

/-- The root of a number, rounded down. -/
def IsRoot (n r : Int) : Prop := 0 ≤ r ∧ r * r ≤ n ∧ n < (r + 1) * (r + 1)

theorem sq_mono {a b : Int} (h0 : 0 ≤ a) (h : a ≤ b) : a * a ≤ b * b := Int.mul_le_mul h h h0 (by omega)
theorem sq_lt {a b : Int} (h0 : 0 ≤ b) (h : a * a < b * b) : a < b := by
  rcases Int.lt_or_le a b with h1 | h1
  · exact h1
  · have := sq_mono h0 h1; omega
theorem root_unique {n r s : Int} (h : IsRoot n r) (k : IsRoot n s) : r = s := by
  obtain ⟨h0, h1, h2⟩ := h
  obtain ⟨k0, k1, k2⟩ := k
  have a1 : r < s + 1 := sq_lt (by omega) (by omega)
  have a2 : s < r + 1 := sq_lt (by omega) (by omega)
  omega
/-- The root, rounded up. -/
def up (n r : Int) : Int := if r * r = n then r else r + 1

set_option maxRecDepth 100000 in
set_option maxHeartbeats 1000000 in
theorem root_any (n : Int) (r : Int) (w : World) (h0 : 0 ≤ n) (h1 : n ≤ 1000000000) (hr : IsRoot n r) :
    Calls Tryz.prog 106 #[.int .i64 n] w fun e w' => e = .returned (.agg #[.int .i64 r, .int .i64 (up n r)]) ∧ Below w.heap.size w w' := by
  obtain ⟨F, R, r0, hF, hR, hB, hr0, hr1⟩ := convert_root n h0 (by omega)
  have hR' := Lib.hid hR
  have hr' := Lib.hid hr
  clear hR hr
  go_enter Tryz.func106, Tryz.ntmps106
  go_wp2_with (go_at_call 108; refine (sqrt_any _ _ hR'.out _).mono ?_; rintro e w' ⟨rfl, rfl⟩)
  clear hF hB
  go_loop [3] (fun s => ∃ r : Int, 0 ≤ r ∧ r ≤ 8388608 ∧ s = .int .i64 r) (fun s => (intOf s).toNat)
  case atStart => exact ⟨r0, hr0, hr1, rfl⟩
  case round =>
    obtain ⟨s, hs0, hs1, rfl⟩ := hrel
    have hss : 0 ≤ s * s ∧ s * s ≤ 8388608 * 8388608 := ⟨Int.mul_nonneg hs0 hs0, sq_mono hs0 hs1⟩
    obtain ⟨hss0, hss1⟩ := hss
    by_cases hlt : n < s * s
    · have hs2 : 0 < s := by
        rcases Int.lt_or_le 0 s with h | h
        · exact h
        · have : s = 0 := by omega
          subst this; omega
      go_wp2
      go_round
      case rel => exact ⟨s - 1, by omega, by omega, rfl⟩
      case measure => simp [intOf]; omega
    · have hle : Hid (s * s ≤ n) := by unfold Hid; omega
      go_wp2
      go_loop [3] (fun v => ∃ r : Int, 0 ≤ r ∧ r ≤ 8388608 ∧ v = .int .i64 r ∧ Hid (r * r ≤ n)) (fun v => (8388608 - intOf v).toNat)
      case atStart => exact ⟨s, hs0, hs1, rfl, hle⟩
      case round =>
        clear hss0 hss1 hlt hs0 hs1 hle
        obtain ⟨s, hs0, hs1, rfl, hle⟩ := hrel
        have hlo := hle.out
        have hs40 : s < 40000 := sq_lt (by omega) (by omega)
        have hss0 : 0 ≤ s * s := Int.mul_nonneg hs0 hs0
        have hss1 : s * s ≤ 40000 * 40000 := sq_mono hs0 (by omega)
        have hst0 : 0 ≤ (s + 1) * (s + 1) := Int.mul_nonneg (by omega) (by omega)
        have hst1 : (s + 1) * (s + 1) ≤ 40000 * 40000 := sq_mono (by omega) (by omega)
        by_cases hlt : (s + 1) * (s + 1) ≤ n
        · have hlt' := Lib.hid hlt
          go_wp2
          go_round
          case rel => exact ⟨s + 1, by omega, by omega, rfl, hlt'⟩
          case measure => simp [intOf]; omega
        · have hsr : s = r := root_unique ⟨hs0, hlo, by omega⟩ hr'.out
          by_cases he : s * s = n
          · have he' : (s * s == n) = true := by simp [he]
            have hup : up n r = r := by unfold up; rw [← hsr, if_pos he]
            have hup' := Lib.hid hup
            have hsr' := Lib.hid hsr
            clear hup hsr he
            go_wp2
            refine bodyPost_ret (v := .agg #[.int .i64 s, .int .i64 s]) ?_ rfl ⟨?_, ?_⟩
            · simp [results, Tryz.results106, go_sem]
            · rw [hup'.out, hsr'.out]
            · go_grown
          · have he' : (s * s == n) = false := by simp [he]
            have hup : up n r = r + 1 := by unfold up; rw [← hsr, if_neg he]
            have hup' := Lib.hid hup
            have hsr' := Lib.hid hsr
            clear hup hsr he
            go_wp2
            refine bodyPost_ret (v := .agg #[.int .i64 s, .int .i64 (s + 1)]) ?_ rfl ⟨?_, ?_⟩
            · simp [results, Tryz.results106, go_sem]
            · rw [hup'.out, hsr'.out]
            · go_grown
end Go.Proofs
