import Derived.Test.YtceiinlmblgdoaaGreatDoorK
import Derived.Test.YtceiinlmblgdoaaGreatDoorM
import Derived.RangeFuncNested
import Derived.RangeFuncBound
import Derived.RangeFuncCalls
import Derived.Shelf.Abstract
import Derived.Shelf.RegionOpen
import Derived.OwnWalkIn
import Derived.TacticsInMore
import Derived.LoopNIn
import Derived.LoopIn
set_option linter.unusedSimpArgs false
set_option linter.unusedVariables false
namespace Go.Proofs
open Go.RowKit
attribute [local go_sem] Oper.semAt_some

/-- The root, bit by bit. -/
def rootGo (n : Int) : Nat → Int → Int
  | 0, r => r
  | t + 1, r => if (r + 2 ^ t) * (r + 2 ^ t) ≤ n then rootGo n t (r + 2 ^ t) else rootGo n t r
def rt (n : Int) : Int := rootGo n 31 0
theorem rootGo_is (n : Int) : ∀ (t : Nat) (r : Int), 0 ≤ r → r * r ≤ n → n < (r + 2 ^ t) * (r + 2 ^ t) → IsRoot n (rootGo n t r)
  | 0, r, h0, h1, h2 => ⟨h0, h1, by simpa [rootGo] using h2⟩
  | t + 1, r, h0, h1, h2 => by
    have hp : (0 : Int) < 2 ^ t := Int.pow_pos (by omega)
    have e : r + 2 ^ (t + 1) = r + 2 ^ t + 2 ^ t := by rw [Int.pow_succ]; omega
    unfold rootGo
    split
    · rename_i h
      exact rootGo_is n t _ (by omega) h (by rw [← e]; exact h2)
    · rename_i h
      exact rootGo_is n t r h0 h1 (by omega)
theorem rt_is (n : Int) (h0 : 0 ≤ n) (h1 : n ≤ 1000000000000000000) : IsRoot n (rt n) := rootGo_is n 31 0 (by omega) (by omega) (by
  have : ((0 : Int) + 2 ^ 31) * (0 + 2 ^ 31) = 4611686018427387904 := by decide
  omega)

/-- The width at a height. -/
def wq (c y : Int) : Int := 4 * (c * c - y * y)
def wLo (c y : Int) : Int := rt (wq c y)
def wHi (c y : Int) : Int := up (wq c y) (rt (wq c y))
theorem wq_bd (c y : Int) (hc : 0 ≤ c) (hc2 : c ≤ 1000) (h1 : -c ≤ y) (h2 : y ≤ c) : 0 ≤ wq c y ∧ wq c y ≤ 4000000 := by
  unfold wq
  have a : 0 ≤ (c - y) * (c + y) := Int.mul_nonneg (by omega) (by omega)
  have b : (c - y) * (c + y) = c * c - y * y := by rw [Int.sub_mul, Int.mul_add, Int.mul_add, Int.mul_comm y c]; omega
  have d : c * c ≤ 1000 * 1000 := sq_mono hc hc2
  have f : 0 ≤ y * y := by
    rcases Int.le_total 0 y with h | h
    · exact Int.mul_nonneg h h
    · exact Int.mul_nonneg_of_nonpos_of_nonpos h h
  omega

set_option maxHeartbeats 400000 in
theorem width_any (c y : Int) (w : World) (hc : 0 ≤ c) (hc2 : c ≤ 1000) (h1 : -c ≤ y) (h2 : y ≤ c) :
    Calls Tryz.prog 77 #[.int .i64 c, .int .i64 y] w fun e w' => e = .returned (.agg #[.int .i64 (wLo c y), .int .i64 (wHi c y)]) ∧ Below w.heap.size w w' := by
  obtain ⟨hq0, hq1⟩ := wq_bd c y hc hc2 h1 h2
  have hR := fun W => root_any (wq c y) (rt (wq c y)) W hq0 (by omega) (rt_is _ hq0 (by omega))
  unfold wLo wHi
  generalize rt (wq c y) = r at *
  unfold wq at *
  have hcc0 : 0 ≤ c * c := Int.mul_nonneg hc hc
  have hcc1 : c * c ≤ 1000 * 1000 := sq_mono hc hc2
  obtain ⟨cc, hcc⟩ : ∃ cc, c * c = cc := ⟨_, rfl⟩
  obtain ⟨yy, hyy⟩ : ∃ yy, y * y = yy := ⟨_, rfl⟩
  have hyy0 : 0 ≤ y * y := by
    rcases Int.le_total 0 y with h | h
    · exact Int.mul_nonneg h h
    · exact Int.mul_nonneg_of_nonpos_of_nonpos h h
  have hyy1 : y * y ≤ 1000 * 1000 := by omega
  have hR' := Lib.hid hR
  clear hR hcc hyy
  generalize up (4 * (c * c - y * y)) r = u at *
  go_enter Tryz.func77, Tryz.ntmps77
  go_wp2_with (go_at_call 97; refine (hR'.out _).mono ?_; rintro e w1 ⟨rfl, hb⟩; have hcc := gcell hb; have hff := gfrozen hb; have hz0 : w.heap.size < w1.heap.size := (by have := hb.size; simp at this; omega))
  refine bodyPost_ret (v := .agg #[.int .i64 r, .int .i64 u]) ?_ rfl ⟨rfl, ?_⟩
  · simp [results, Tryz.results77, go_sem, hcc, hff, hz0]
  · have hbw := via (by go_grown : Below w.heap.size w _) hb
    go_grown

/-- The area of the strip number 'i' from below. -/
def strip (c : Int) (i : Nat) : Int × Int := (min (wLo c (-c + i)) (wLo c (-c + i + 1)), max (wHi c (-c + i)) (wHi c (-c + i + 1)))
def strips (c : Int) (k : Nat) : List (Int × Int) := (List.range k).map (strip c)
theorem strips_succ (c : Int) (k : Nat) : strips c (k + 1) = strips c k ++ [strip c k] := by unfold strips; rw [List.range_succ, List.map_append]; rfl
theorem strips_len (c : Int) (k : Nat) : (strips c k).length = k := by unfold strips; simp

set_option maxRecDepth 100000 in
set_option maxHeartbeats 2000000 in
theorem slices_stops (n : Nat) (c lv : Int) (B1 B2 : Nat) (M : Nat → Prop) (w : World) (hn : 1 ≤ n) (hc0 : 0 ≤ c) (hc1 : c ≤ 1000) (hl0 : -1000 ≤ lv) (hl1 : lv ≤ c)
    (h1 : w.cell? ⟨B1, 0, none⟩ = some (.int .i64 c)) (h2 : w.cell? ⟨B2, 0, none⟩ = some (.int .i64 lv)) (hM1 : ¬ M B1) (hM2 : ¬ M B2) (hM : ∀ k, M k → k < w.heap.size) :
    StopsC Fence.wide n Tryz.prog 76 #[.pointer (some ⟨B1, 0, none⟩), .pointer (some ⟨B2, 0, none⟩)] (fun x : Int × Int => #[.agg #[.int .i64 x.1, .int .i64 x.2]]) M (fun pre x => pre = strips c pre.length ∧ x = strip c pre.length)
      (fun xs => xs = strips c (lv + c).toNat) (fun _ => True) (lv + c).toNat w := by
  intro l J Jx W hW hJ hJx hY h0
  have g1 : W.cell? ⟨B1, 0, none⟩ = some (.int .i64 c) := (hW.cell (p := ⟨B1, 0, none⟩) (World.block_lt_of_cell? _ _ h1)).trans h1
  have g2 : W.cell? ⟨B2, 0, none⟩ = some (.int .i64 lv) := (hW.cell (p := ⟨B2, 0, none⟩) (World.block_lt_of_cell? _ _ h2)).trans h2
  clear h1 h2
  have hws := hW.size
  refine callsIn_of_wp Tryz.func76 rfl trivial ?_
  simp only [Tryz.ntmps76, List.size_toArray, List.length_cons, List.length_nil, Nat.reduceAdd, Nat.reduceSub, Array.replicate_succ, Array.replicate_zero, List.push_toArray, List.append_toArray, List.nil_append, List.cons_append]
  have hB1 : B1 < W.heap.size := World.block_lt_of_cell? _ _ g1
  have hB2 : B2 < W.heap.size := World.block_lt_of_cell? _ _ g2
  gi_wp2_with (refine ⟨trivial, ?_⟩; gi_at_call 77; refine (callsIn_wide.2 (width_any c (-c) _ hc0 hc1 (by omega) (by omega))).mono ?_; rintro e w1 ⟨rfl, hb1⟩; have k1 := (gcell hb1 B1 0 hB1).trans g1; have k2 := (gcell hb1 B2 0 hB2).trans g2; have hB1' : B1 < w1.heap.size := (by have := hb1.size; omega); have hB2' : B2 < w1.heap.size := (by have := hb1.size; omega))
  have hG := hb1.size
  obtain ⟨G, hGe⟩ : ∃ G, w1.heap.size = G := ⟨_, rfl⟩
  have hJ1 := abide_alloc hJ (.cells #[.int .i64 (wLo c (-c)), .int .i64 (wHi c (-c))] 23) (abide_below hJ h0 hb1)
  have k1' : (w1.alloc (.cells #[.int .i64 (wLo c (-c)), .int .i64 (wHi c (-c))] 23)).cell? ⟨B1, 0, none⟩ = some (.int .i64 c) := by rw [World.cell?_alloc_past _ _ _ (by omega)]; exact k1
  have k2' : (w1.alloc (.cells #[.int .i64 (wLo c (-c)), .int .i64 (wHi c (-c))] 23)).cell? ⟨B2, 0, none⟩ = some (.int .i64 lv) := by rw [World.cell?_alloc_past _ _ _ (by omega)]; exact k2
  have k3' : (w1.alloc (.cells #[.int .i64 (wLo c (-c)), .int .i64 (wHi c (-c))] 23)).cell? ⟨G, 0, none⟩ = some (.int .i64 (wLo c (-c + ((0 : Nat) : Int)))) := by rw [World.cell?_alloc_at _ _ _ _ hGe.symm]; simp
  have k4' : (w1.alloc (.cells #[.int .i64 (wLo c (-c)), .int .i64 (wHi c (-c))] 23)).cell? ⟨G, 1, none⟩ = some (.int .i64 (wHi c (-c + ((0 : Nat) : Int)))) := by rw [World.cell?_alloc_at _ _ _ _ hGe.symm]; simp
  have k5' : (w1.alloc (.cells #[.int .i64 (wLo c (-c)), .int .i64 (wHi c (-c))] 23)).frozen? ⟨G, 0, none⟩ = false := World.frozen?_alloc_at _ _ _ _ hGe.symm
  have k6' : (w1.alloc (.cells #[.int .i64 (wLo c (-c)), .int .i64 (wHi c (-c))] 23)).frozen? ⟨G, 1, none⟩ = false := World.frozen?_alloc_at _ _ _ _ hGe.symm
  have hGs : G < (w1.alloc (.cells #[.int .i64 (wLo c (-c)), .int .i64 (wHi c (-c))] 23)).heap.size := by simp; omega
  rw [hGe]
  generalize w1.alloc (.cells #[.int .i64 (wLo c (-c)), .int .i64 (wHi c (-c))] 23) = w2 at *
  have hGM : ¬ M G := fun h => by have := hM G h; omega
  have hMl := Lib.hid hM
  have hM1' := Lib.hid hM1
  have hM2' := Lib.hid hM2
  have hGM' := Lib.hid hGM
  have hY' := Lib.hid hY
  have hGW : W.heap.size ≤ G := by omega
  clear hB1' hB2' k1 k2 h0 g1 g2 hb1 hGe hG hM hM1 hM2 hGM hY w1 hW hJx
  gi_loopw [5] (fun y wr => ∃ k : Nat, k ≤ (lv + c).toNat ∧ y = .int .i64 (-c + k) ∧ J (strips c k) wr ∧ wr.cell? ⟨B1, 0, none⟩ = some (.int .i64 c) ∧ wr.cell? ⟨B2, 0, none⟩ = some (.int .i64 lv) ∧
      wr.cell? ⟨G, 0, none⟩ = some (.int .i64 (wLo c (-c + k))) ∧ wr.cell? ⟨G, 1, none⟩ = some (.int .i64 (wHi c (-c + k))) ∧ wr.frozen? ⟨G, 0, none⟩ = false ∧ wr.frozen? ⟨G, 1, none⟩ = false ∧ G < wr.heap.size)
    (fun y _ => (lv - intOf y).toNat)
  case atStart => exact ⟨0, Nat.zero_le _, by simp, hJ1, k1', k2', k3', k4', k5', k6', hGs⟩
  case round =>
    clear k1' k2' k3' k4' k5' k6' hGs hJ1
    obtain ⟨k, hk, rfl, hJk, c1, c2, c3, c4, c5, c6, hGr⟩ := hrel
    by_cases hlt : -c + (k : Int) < lv
    · have hJk' := Lib.hid hJk
      clear hJk
      have hB1r : B1 < wr.heap.size := World.block_lt_of_cell? _ _ c1
      have hB2r : B2 < wr.heap.size := World.block_lt_of_cell? _ _ c2
      have hWy := fun W m => (callsIn_wide (n := m)).2 (width_any c (-c + k + 1) W hc0 hc1 (by omega) (by omega))
      obtain ⟨lo1, hlo1⟩ : ∃ x, wLo c (-c + k) = x := ⟨_, rfl⟩
      obtain ⟨hi1, hhi1⟩ : ∃ x, wHi c (-c + k) = x := ⟨_, rfl⟩
      obtain ⟨lo2, hlo2⟩ : ∃ x, wLo c (-c + k + 1) = x := ⟨_, rfl⟩
      obtain ⟨hi2, hhi2⟩ : ∃ x, wHi c (-c + k + 1) = x := ⟨_, rfl⟩
      have hst : strip c k = (min lo1 lo2, max hi1 hi2) := by unfold strip; rw [hlo1, hlo2, hhi1, hhi2]
      have hc4 : (strip c k = (lo1, hi1) ∧ lo1 ≤ lo2 ∧ hi2 ≤ hi1) ∨ (strip c k = (lo1, hi2) ∧ lo1 ≤ lo2 ∧ hi1 < hi2) ∨ (strip c k = (lo2, hi1) ∧ lo2 < lo1 ∧ hi2 ≤ hi1) ∨ (strip c k = (lo2, hi2) ∧ lo2 < lo1 ∧ hi1 < hi2) := by
        rw [hst]
        rcases Int.lt_or_le lo2 lo1 with a | a <;> rcases Int.lt_or_le hi1 hi2 with b | b
        · right; right; right; exact ⟨by rw [Int.min_eq_right (by omega), Int.max_eq_right (by omega)], a, b⟩
        · right; right; left; exact ⟨by rw [Int.min_eq_right (by omega), Int.max_eq_left (by omega)], a, b⟩
        · right; left; exact ⟨by rw [Int.min_eq_left (by omega), Int.max_eq_right (by omega)], a, b⟩
        · left; exact ⟨by rw [Int.min_eq_left (by omega), Int.max_eq_left (by omega)], a, b⟩
      have hn2 : Hid (wLo c (-c + ((k + 1 : Nat) : Int)) = lo2 ∧ wHi c (-c + ((k + 1 : Nat) : Int)) = hi2) := by
        unfold Hid; rw [show -c + ((k + 1 : Nat) : Int) = -c + k + 1 by omega]; exact ⟨hlo2, hhi2⟩
      rw [hlo1] at c3
      rw [hhi1] at c4
      rw [hlo2, hhi2] at hWy
      have hWy' := Lib.hid hWy
      clear hlo1 hhi1 hlo2 hhi2 hWy
      have hlen : (strips c k).length < (lv + c).toNat := by rw [strips_len]; omega
      have hlen' := Lib.hid hlen
      clear hlen
      rcases hc4 with ⟨hst, ha, hb⟩ | ⟨hst, ha, hb⟩ | ⟨hst, ha, hb⟩ | ⟨hst, ha, hb⟩
      all_goals
        have hst3 := Lib.hid hst
        clear hst
        gi_wp2_with (refine ⟨trivial, ?_⟩; gi_at_call 77; refine (hWy'.out _ _).mono ?_; rintro e w3 ⟨rfl, hb3⟩; have d1 := (gcell hb3 B1 0 hB1r).trans c1; have d2 := (gcell hb3 B2 0 hB2r).trans c2; have d3 := (gcell hb3 G 0 hGr).trans c3; have d4 := (gcell hb3 G 1 hGr).trans c4; have d5 := (gfrozen hb3 G 0 hGr).trans c5; have d6 := (gfrozen hb3 G 1 hGr).trans c6; have hs3 := hb3.size; have hG3 : G < w3.heap.size := (by omega); have hB13 : B1 < w3.heap.size := (by omega); have hB23 : B2 < w3.heap.size := (by omega); obtain ⟨fn, tmps, assign, body, hy, hR⟩ := hY'.out (strips c k) (strip c k) (w3.alloc (.cells #[.int .i64 lo2, .int .i64 hi2] 23)) (abide_alloc hJ _ (abide_below hJ hJk'.out hb3)) hlen'.out (by rw [strips_len]; exact ⟨rfl, rfl⟩); rw [hst3.out] at hy hR; have hR' := Lib.hid hR; clear hR)
        refine hR'.out.mono ?_
        rintro e w4 (⟨rfl, hJ4, hk4⟩ | ⟨rfl, hJx4, hk4⟩)
        · have hJ5 : J (strips c (k + 1)) w4 := by rw [strips_succ, hst3.out]; exact hJ4
          have hM3 : ¬ M w3.heap.size := fun h => by have := hMl.out _ h; omega
          have e1 := hk4.cell (k := w3.heap.size) (o := 0) (v := .int .i64 lo2) hM3 (by rw [World.cell?_alloc_at _ _ _ _ rfl] <;> rfl)
          have e2 := hk4.cell (k := w3.heap.size) (o := 1) (v := .int .i64 hi2) hM3 (by rw [World.cell?_alloc_at _ _ _ _ rfl] <;> rfl)
          have e3 := hk4.cell (k := B1) (o := 0) hM1'.out (by rw [World.cell?_alloc_past _ _ _ hB13]; exact d1)
          have e4 := hk4.cell (k := B2) (o := 0) hM2'.out (by rw [World.cell?_alloc_past _ _ _ hB23]; exact d2)
          have e5 := hk4.cell (k := G) (o := 0) hGM'.out (by rw [World.cell?_alloc_past _ _ _ hG3]; exact d3)
          have e6 := hk4.cell (k := G) (o := 1) hGM'.out (by rw [World.cell?_alloc_past _ _ _ hG3]; exact d4)
          have e7 : w4.frozen? ⟨G, 0, none⟩ = false := (hk4.frozen (k := G) (o := 0) hGM'.out (by rw [World.cell?_alloc_past _ _ _ hG3]; exact d3)).trans (by rw [World.frozen?_alloc_past _ _ _ hG3]; exact d5)
          have e8 : w4.frozen? ⟨G, 1, none⟩ = false := (hk4.frozen (k := G) (o := 1) hGM'.out (by rw [World.cell?_alloc_past _ _ _ hG3]; exact d4)).trans (by rw [World.frozen?_alloc_past _ _ _ hG3]; exact d6)
          have hG4 : G < w4.heap.size := World.block_lt_of_cell? _ _ e5
          have hB14 : ¬ B1 = G := by omega
          have hB24 : ¬ B2 = G := by omega
          have hJ5' := Lib.hid hJ5
          clear hk4 hJ4 hJ5 hy hR' c1 c2 c3 c4 c5 c6 d1 d2 d3 d4 d5 d6 hb3
          gi_wp2
          go_roundw
          case rel => exact ⟨k + 1, by omega, by congr 1; omega, abide_setCell hJ _ (abide_setCell hJ _ hJ5'.out hGW) hGW, by simp [go_sem, e3, hB14], by simp [go_sem, e4, hB24], by rw [hn2.out.1]; simp [go_sem, e5], by rw [hn2.out.2]; simp [go_sem, e6], by simp [go_sem, e7], by simp [go_sem, e8], by simpa using hG4⟩
          case measure => simp [intOf]; omega
        · have hJ5' := Lib.hid hJx4
          clear hk4 hJx4 hy hR' c1 c2 c3 c4 c5 c6 d1 d2 d3 d4 d5 d6 hb3
          gi_wp2
          refine bodyPost_ret (results_none rfl _ _ _) rfl ?_
          exact ⟨⟨_, rfl⟩, .inr ⟨_, trivial, hJ5'.out⟩⟩
    · have hkk : k = (lv + c).toNat := by omega
      have hkk' := Lib.hid hkk
      have hJk' := Lib.hid hJk
      clear hkk hJk
      gi_wp2
      go_end0
      exact ⟨⟨_, rfl⟩, .inl (by rw [← hkk'.out]; exact hJk'.out)⟩

theorem slices_any (c lv : Int) (w : World) :
    Calls Tryz.prog 55 #[.int .i64 c, .int .i64 lv] w fun e w' => e = .returned (.func (.func 76) #[] #[.pointer (some ⟨w.heap.size, 0, none⟩), .pointer (some ⟨w.heap.size + 1, 0, none⟩)]) ∧
      (w.alloc (.cells #[.int .i64 c] 72)).alloc (.cells #[.int .i64 lv] 3) = w' := by
  have hmf : ∀ (fn : Fn) (first cap : Array Value) (w : World), (Instr.makeFunc fn first cap).run Tryz.prog w = .ok (.func fn first cap) w := fun _ _ _ _ => rfl
  go_enter Tryz.func55, Tryz.ntmps55
  go_wp2
  go_ret
  exact ⟨rfl, rfl⟩

def addA (o a : Int × Int) : Int × Int := (o.1 + a.1, o.2 + a.2)
def sumA (l : List (Int × Int)) : Int × Int := l.foldl addA (0, 0)
theorem sumA_snoc (l : List (Int × Int)) (x : Int × Int) : sumA (l ++ [x]) = ((sumA l).1 + x.1, (sumA l).2 + x.2) := by unfold sumA; rw [List.foldl_append]; rfl
/-- The area of a circle up to a level. -/
def areaOf (c lv : Int) : Int × Int := sumA (strips c (min lv c + c).toNat)

theorem wLo_bd (c y : Int) (hc : 0 ≤ c) (hc2 : c ≤ 1000) (h1 : -c ≤ y) (h2 : y ≤ c) : 0 ≤ wLo c y ∧ wLo c y ≤ 2000 ∧ wLo c y ≤ wHi c y ∧ wHi c y ≤ wLo c y + 1 := by
  obtain ⟨h3, h4⟩ := wq_bd c y hc hc2 h1 h2
  obtain ⟨a, b, _⟩ := rt_is _ h3 (by omega)
  have : rt (wq c y) < 2001 := sq_lt (by omega) (by omega)
  unfold wLo wHi up
  refine ⟨a, by omega, ?_, ?_⟩ <;> split <;> omega
theorem strip_bd (c : Int) (i : Nat) (hc : 0 ≤ c) (hc2 : c ≤ 1000) (h : -c + (i : Int) < c) : 0 ≤ (strip c i).1 ∧ (strip c i).1 ≤ 2001 ∧ 0 ≤ (strip c i).2 ∧ (strip c i).2 ≤ 2001 := by
  have a := wLo_bd c (-c + i) hc hc2 (by omega) (by omega)
  have b := wLo_bd c (-c + i + 1) hc hc2 (by omega) (by omega)
  unfold strip
  refine ⟨?_, ?_, ?_, ?_⟩ <;> dsimp only <;> omega
theorem sumA_bd (c : Int) (hc : 0 ≤ c) (hc2 : c ≤ 1000) : ∀ k : Nat, -c + (k : Int) ≤ c → 0 ≤ (sumA (strips c k)).1 ∧ (sumA (strips c k)).1 ≤ 2001 * k ∧ 0 ≤ (sumA (strips c k)).2 ∧ (sumA (strips c k)).2 ≤ 2001 * k
  | 0, _ => by simp [strips, sumA]
  | k + 1, h => by
    have ih := sumA_bd c hc hc2 k (by omega)
    have b := strip_bd c k hc hc2 (by omega)
    rw [strips_succ, sumA_snoc]
    dsimp only
    omega

end Go.Proofs
