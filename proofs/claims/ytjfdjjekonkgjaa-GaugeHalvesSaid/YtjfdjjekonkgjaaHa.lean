import Derived.Test.YtjfdjjekonkgjaaMa
import Derived.Test.YtjfdjjekonkgjaaVo
set_option linter.unusedSimpArgs false
set_option linter.unusedVariables false
namespace Go.Proofs
open Go.RowKit

theorem wq_even (c y : Int) : wq c (-y) = wq c y := by unfold wq; rw [Int.neg_mul_neg]
theorem strip_even (c : Int) (n i j : Nat) (hc : c = n) (h : i + j + 1 = 2 * n) : strip c j = strip c i := by
  have e1 : -c + (j : Int) = -(-c + (i : Int) + 1) := by omega
  have e2 : -c + (j : Int) + 1 = -(-c + (i : Int)) := by omega
  unfold strip wLo wHi
  rw [e2, e1, wq_even, wq_even, Int.min_comm, Int.max_comm]
theorem sum_even (c : Int) (n : Nat) (hc : c = n) : ∀ k, k ≤ n → (sumA (strips c (n + k))).1 + (sumA (strips c (n - k))).1 = 2 * (sumA (strips c n)).1 ∧ (sumA (strips c (n + k))).2 + (sumA (strips c (n - k))).2 = 2 * (sumA (strips c n)).2
  | 0, _ => by simp; omega
  | k + 1, h => by
    have ih := sum_even c n hc k (by omega)
    have e := strip_even c n (n - (k + 1)) (n + k) hc (by omega)
    rw [← Nat.add_assoc, strips_succ, sumA_snoc, e]
    rw [show n - k = (n - (k + 1)) + 1 by omega, strips_succ, sumA_snoc] at ih
    dsimp only at ih ⊢
    omega
theorem area_even (c : Int) (hc : 0 ≤ c) : (areaOf c c).1 = 2 * (areaOf c 0).1 ∧ (areaOf c c).2 = 2 * (areaOf c 0).2 := by
  obtain ⟨n, hn⟩ : ∃ n : Nat, c = n := ⟨c.toNat, by omega⟩
  have h := sum_even c n hn n (Nat.le_refl _)
  unfold areaOf
  rw [show (min c c + c).toNat = n + n by omega, show (min 0 c + c).toNat = n by omega]
  rw [Nat.sub_self] at h
  simp only [strips, sumA, List.range_zero, List.map_nil, List.foldl_nil] at h ⊢
  omega

/-! The root of small numbers, in seven steps. -/
def rt7 (n : Int) : Int := rootGo n 7 0
theorem rt7_is {n : Int} (h0 : 0 ≤ n) (h1 : n < 16384) : rt n = rt7 n :=
  root_unique (rt_is n h0 (by omega)) (rootGo_is n 7 0 (by omega) (by omega) (by
    have : ((0 : Int) + 2 ^ 7) * (0 + 2 ^ 7) = 16384 := by decide
    omega))
def lo7 (c : Int) (i : Nat) : Int := min (rt7 (wq c (-c + i))) (rt7 (wq c (-c + i + 1)))
def hi7 (c : Int) (i : Nat) : Int := max (up (wq c (-c + i)) (rt7 (wq c (-c + i)))) (up (wq c (-c + i + 1)) (rt7 (wq c (-c + i + 1))))
def loSum (c : Int) : Nat → Int
  | 0 => 0
  | k + 1 => loSum c k + lo7 c k
def hiSum (c : Int) : Nat → Int
  | 0 => 0
  | k + 1 => hiSum c k + hi7 c k
theorem sum7 (c : Int) (hc : 0 ≤ c) (hc2 : c ≤ 60) : ∀ k : Nat, -c + (k : Int) ≤ c → sumA (strips c k) = (loSum c k, hiSum c k)
  | 0, _ => rfl
  | k + 1, h => by
    have ih := sum7 c hc hc2 k (by omega)
    have q1 := wq_bd c (-c + k) hc (by omega) (by omega) (by omega)
    have q2 := wq_bd c (-c + k + 1) hc (by omega) (by omega) (by omega)
    have hs := sq_mono hc hc2
    have hb : ∀ y, wq c y ≤ 4 * (c * c) := fun y => by
      unfold wq
      have : 0 ≤ y * y := by
        rcases Int.le_total 0 y with h | h
        · exact Int.mul_nonneg h h
        · have e : y * y = (-y) * (-y) := by rw [Int.neg_mul_neg]
          rw [e]; exact Int.mul_nonneg (by omega) (by omega)
      omega
    have b1 := hb (-c + k)
    have b2 := hb (-c + k + 1)
    rw [strips_succ, sumA_snoc, ih]
    rw [show loSum c (k + 1) = loSum c k + lo7 c k from rfl, show hiSum c (k + 1) = hiSum c k + hi7 c k from rfl]
    unfold lo7 hi7 strip wLo wHi
    rw [rt7_is q1.1 (by omega), rt7_is q2.1 (by omega)]
def chk7 (n : Nat) : Bool := decide (3 * (n : Int) * n ≤ 2 * hiSum n n) && decide (2 * loSum n n ≤ 4 * (n : Int) * n)
theorem chk_all : (List.range 51).all (fun k => chk7 (k + 10)) = true := by decide +kernel
theorem area_between (c : Int) (h1 : 10 ≤ c) (h2 : c ≤ 60) : 3 * c * c ≤ (areaOf c c).2 ∧ (areaOf c c).1 ≤ 4 * c * c := by
  obtain ⟨n, hn⟩ : ∃ n : Nat, c = n := ⟨c.toNat, by omega⟩
  have he := area_even c (by omega)
  have hz : areaOf c 0 = (loSum c n, hiSum c n) := by
    unfold areaOf
    rw [show (min 0 c + c).toNat = n by omega]
    exact sum7 c (by omega) h2 n (by omega)
  rw [hz] at he
  have hc := List.all_eq_true.1 chk_all (n - 10) (List.mem_range.2 (by omega))
  rw [show n - 10 + 10 = n by omega] at hc
  unfold chk7 at hc
  rw [← hn] at hc
  simp only [Bool.and_eq_true, decide_eq_true_eq] at hc
  dsimp only at he
  omega
/-- A cylinder up to a dip. -/
theorem cyl_toV (r L dip : Int) : toV r dip [⟨0, r, r⟩, ⟨L, r, r⟩] = (L * (areaOf r (dip - r)).1 / 100000, -(-(L * (areaOf r (dip - r)).2) / 100000)) := by
  unfold toV
  simp [sumTo, part]
theorem cyl_right {r L : Int} (h1 : 10 ≤ r) (h2 : r ≤ 60) (h3 : 1 ≤ L) (h4 : L ≤ 3000) : RightC r [⟨0, r, r⟩, ⟨L, r, r⟩] := by
  refine ⟨by omega, by simp, ?_, ?_⟩
  · intro x hx
    simp at hx
    rcases hx with rfl | rfl <;> dsimp only <;> omega
  · intro i x y hx hy
    match i, hx, hy with
    | 0, hx, hy =>
      simp at hx hy
      subst hx hy
      dsimp only; omega
    | 1, hx, hy => simp at hy
    | i + 2, hx, hy => simp at hy
theorem cyl_check {r L : Int} {s : List UInt8} (hn : nameB s = true) (h1 : 10 ≤ r) (h2 : r ≤ 60) (h3 : 1 ≤ L) (h4 : L ≤ 3000) : checkC s r [⟨0, r, r⟩, ⟨L, r, r⟩] = (0, 0) := by
  have e1 : caskHeadE s r 2 = 0 := by unfold caskHeadE; rw [hn]; simp [within, firstE, unl]; omega
  unfold checkC
  rw [show [St.mk 0 r r, St.mk L r r].length = 2 from rfl, if_pos e1]
  have e2 : stE r none ⟨0, r, r⟩ = 0 := by unfold stE within; simp [firstE, unl]; omega
  have e3 : stE r (some 0) ⟨L, r, r⟩ = 0 := by unfold stE within; simp [firstE, unl]; omega
  unfold stationsE
  rw [if_pos e2]
  unfold stationsE
  rw [if_pos e3]
  rfl
end Go.Proofs
