import Derived.Test.YtpmliaildjomeaaGreatDoorMg5
import Derived.Test.YtpmliaildjomeaaGreatDoorMg3
import Derived.Test.YtpmliaildjomeaaGreatDoorMg1
import Derived.BigQuiet
import Derived.Deep.OwnRows
set_option linter.unusedSimpArgs false
set_option linter.unusedVariables false
namespace Go.Proofs
open Go.RowKit

def Zc (x : Int) : List Value := [.int .i64 x]
/-- A row of numbers in memory. -/
structure IR where
  A : Option Addr
  c : Nat
  l : List Int
def IR.cs (x : IR) : List Value := [.slice x.A x.l.length x.c]
def RowsAt (w : World) (A : Option Addr) (xs : List IR) : Prop := At 1 IR.cs w A xs ∧ ∀ x ∈ xs, At 1 Zc w x.A x.l
theorem RowsAt.below {w w' : World} {A : Option Addr} {xs : List IR} (h : RowsAt w A xs) (hb : Below w.heap.size w w') : RowsAt w' A xs := ⟨h.1.below hb, fun x hx => (h.2 x hx).below hb⟩
def colQ (r : List (List Int)) (q : Int) (i c : Nat) : Int := entR r i (if (c : Int) = q then r.length else c)
/-- One cell of a row. -/
theorem RowsAt.cell {w : World} {A : Option Addr} {xs : List IR} (h : RowsAt w A xs) {i j : Nat} {x : IR} (hx : xs[i]? = some x) (hj : j < x.l.length) :
    ∃ b o b2 o2, A = some ⟨b, o, none⟩ ∧ x.A = some ⟨b2, o2, none⟩ ∧ w.cell? ⟨b, o + i, none⟩ = some (.slice (some ⟨b2, o2, none⟩) x.l.length x.c) ∧ w.cell? ⟨b2, o2 + j, none⟩ = some (.int .i64 (x.l.getD j 0)) ∧ entR (xs.map IR.l) i j = x.l.getD j 0 := by
  obtain ⟨b, o, hA, -, hc⟩ := h.1 i x hx
  obtain ⟨b2, o2, hA2, -, hc2⟩ := h.2 x (List.mem_of_getElem? hx) j _ (List.getElem?_eq_getElem hj)
  refine ⟨b, o, b2, o2, hA, hA2, ?_, ?_, ?_⟩
  · have := hc 0 _ rfl
    rw [hA2] at this
    simpa using this
  · have := hc2 0 _ rfl
    rw [List.getD_eq_getElem?_getD, List.getElem?_eq_getElem hj]
    simpa using this
  · simp [entR, List.getD_eq_getElem?_getD, hx]
set_option maxRecDepth 100000 in
theorem det1_any (A : Option Addr) (xs : List IR) (c n : Nat) (q : Int) (K N R row col : Nat) (w : World) (hK : w.heap[K]? = some (.cells #[.int .i64 q] 3 (0, 0))) (hN : w.heap[N]? = some (.cells #[.int .i64 n] 3 (0, 0)))
    (hR : w.heap[R]? = some (.cells #[.slice A n c] 195 (0, 0))) (hrows : RowsAt w A xs) (hn : xs.length = n) (hl : ∀ x ∈ xs, x.l.length = n + 1) (hrow : row < n) (hcol : col < n) :
    Calls Tryz.prog 140 #[.int .i64 row, .int .i64 col, .pointer (some ⟨K, 0, none⟩), .pointer (some ⟨N, 0, none⟩), .pointer (some ⟨R, 0, none⟩)] w fun e w' => e = .returned (.int .i64 (colQ (xs.map IR.l) q row col)) ∧ w = w' := by
  obtain ⟨x, hx⟩ : ∃ x, xs[row]? = some x := ⟨_, List.getElem?_eq_getElem (by omega)⟩
  have hxl := hl x (List.mem_of_getElem? hx)
  have hlen : (xs.map IR.l).length = n := by simpa using hn
  have CK := bk1 hK
  have CN := bk1 hN
  have CR := bk1 hR
  have hrI : (row : Int) < (n : Int) := by omega
  by_cases hq : (col : Int) = q
  · obtain ⟨b, o, b2, o2, rfl, hA2, c1, c2, he⟩ := hrows.cell hx (j := n) (by omega)
    have hv : colQ (xs.map IR.l) q row col = x.l.getD n 0 := by unfold colQ; rw [if_pos hq, hlen, he]
    rw [hv]
    rw [hxl] at c1
    have hqb : ((col : Int) == q) = true := by simp [hq]
    have hnI : (n : Int) < ((n + 1 : Nat) : Int) := by omega
    generalize x.l.getD n 0 = v at *
    clear hq hv he hx hxl hl hn hrows hlen hK hN hR hA2
    go_enter Tryz.func140, Tryz.ntmps140
    go_wp2
    go_ret
    exact ⟨rfl, rfl⟩
  · obtain ⟨b, o, b2, o2, rfl, hA2, c1, c2, he⟩ := hrows.cell hx (j := col) (by omega)
    have hv : colQ (xs.map IR.l) q row col = x.l.getD col 0 := by unfold colQ; rw [if_neg hq, he]
    rw [hv]
    rw [hxl] at c1
    have hqb : ((col : Int) == q) = false := by simp [hq]
    have hnI : (col : Int) < ((n + 1 : Nat) : Int) := by omega
    generalize x.l.getD col 0 = v at *
    clear hq hv he hx hxl hl hn hrows hlen hK hN hR hA2
    go_enter Tryz.func140, Tryz.ntmps140
    go_wp2
    go_ret
    exact ⟨rfl, rfl⟩
end Go.Proofs

set_option linter.unusedSimpArgs false
set_option linter.unusedVariables false
namespace Go.Proofs
open Go.RowKit

/-! The walk of the determinant. -/
theorem Tryz.info3 : (Tryz.prog.info? 3).map (fun i => (i.zero, i.size, i.bytes)) = some (some (.int .i64 0), 1, 8) := by kernel_rfl
theorem run_mkInts (n : Nat) (hn : n ≤ 100000) (W : World) : (Instr.makeSlice 33 (.int .i64 n) (.int .i64 n)).run Tryz.prog W = .ok (.slice (some ⟨W.heap.size, 0, none⟩) n n) (W.alloc (.cells (encZ (List.replicate n 0)) 3 (0, 0))) := by
  rw [← made_ints]
  exact run_make_row' 33 3 (.int .i64 0) 8 Tryz.underlying33 Tryz.info3 rfl .i64 .i64 n (by omega) (by omega) W
theorem and_not_bits : ∀ s ∈ List.range 32, ∀ c ∈ List.range 5, (s >>> c) % 2 = 1 → bits .andNot .i64 (s : Int) ((2 ^ c : Nat) : Int) = ((s - 2 ^ c : Nat) : Int) := by decide +kernel
theorem and_one_bits : ∀ s ∈ List.range 32, bits .and .i64 (s : Int) 1 = ((s % 2 : Nat) : Int) := by decide +kernel
/-- What lies in memory in the round of set s, acc having been summed. -/
def detMem (f : Nat → Nat → Int) (n s : Nat) (acc : Int) : List Int := dpM f n (s - 1) ++ acc :: List.replicate (2 ^ n - 1 - s) 0
theorem detMem_len {f : Nat → Nat → Int} {n s : Nat} {acc : Int} (h1 : 1 ≤ s) (h2 : s < 2 ^ n) : (detMem f n s acc).length = 2 ^ n := by
  simp [detMem, dpM_len]
  omega
theorem detMem_set {f : Nat → Nat → Int} {n s : Nat} {acc acc' : Int} (h1 : 1 ≤ s) : (detMem f n s acc).set s acc' = detMem f n s acc' := by
  unfold detMem
  rw [List.set_append_right _ _ (by rw [dpM_len]; omega), dpM_len, show s - (s - 1 + 1) = 0 by omega]
  rfl
theorem detMem_cur {f : Nat → Nat → Int} {n s : Nat} {acc : Int} (h1 : 1 ≤ s) : (detMem f n s acc)[s]? = some acc := by
  unfold detMem
  rw [List.getElem?_append_right (by rw [dpM_len]; omega), dpM_len, show s - (s - 1 + 1) = 0 by omega]
  rfl
theorem detMem_old {f : Nat → Nat → Int} {n s k : Nat} {acc : Int} (h1 : 1 ≤ s) (hk : k < s) : (detMem f n s acc)[k]? = some ((dpM f n (s - 1)).getD k 0) := by
  unfold detMem
  have hl := dpM_len f n (s - 1)
  rw [List.getElem?_append_left (by omega), List.getD_eq_getElem?_getD, List.getElem?_eq_getElem (by omega)]
  rfl
theorem detMem_next {f : Nat → Nat → Int} {n s : Nat} (h1 : 1 ≤ s) (h2 : s + 1 < 2 ^ n) : detMem f n s (minorS f n (dpM f n (s - 1)) s) = detMem f n (s + 1) 0 := by
  obtain ⟨r, rfl⟩ : ∃ r, s = r + 1 := ⟨s - 1, by omega⟩
  unfold detMem
  simp only [Nat.add_sub_cancel]
  rw [show dpM f n (r + 1) = dpM f n r ++ [minorS f n (dpM f n r) (r + 1)] from rfl, show 2 ^ n - 1 - (r + 1) = (2 ^ n - 1 - (r + 1 + 1)) + 1 by omega, List.replicate_succ]
  simp
theorem detMem_last {f : Nat → Nat → Int} {n s : Nat} (h1 : 1 ≤ s) (h2 : s + 1 = 2 ^ n) : (detMem f n s (minorS f n (dpM f n (s - 1)) s))[2 ^ n - 1]? = some (detP f n) := by
  obtain ⟨r, rfl⟩ : ∃ r, s = r + 1 := ⟨s - 1, by omega⟩
  rw [show 2 ^ n - 1 = r + 1 by omega, detMem_cur h1]
  unfold detP
  rw [show 2 ^ n - 1 = r + 1 by omega, Nat.add_sub_cancel]
  show _ = some ((dpM f n r ++ [minorS f n (dpM f n r) (r + 1)]).getD (r + 1) 0)
  rw [getD_append_last (by rw [dpM_len])]
theorem detMem_first {f : Nat → Nat → Int} {n : Nat} (h : 1 ≤ n) : (List.replicate (2 ^ n) 0).set 0 1 = detMem f n 1 0 := by
  unfold detMem
  obtain ⟨r, hr⟩ : ∃ r, 2 ^ n = r + 2 := ⟨2 ^ n - 2, by have : 2 ^ 1 ≤ 2 ^ n := Nat.pow_le_pow_right (by omega) h; omega⟩
  rw [hr, show r + 2 - 1 - 1 = r by omega]
  rfl
end Go.Proofs

set_option linter.unusedSimpArgs false
set_option linter.unusedVariables false
namespace Go.Proofs
open Go.RowKit

theorem det_bits : ∀ n ∈ List.range 6, ∀ s ∈ List.range (2 ^ n), s ≠ 0 → (pcn 8 s - 1) + 1 = pcn 8 s ∧ pop n s - 1 = pcn 8 s - 1 ∧ pcn 8 s - 1 < n ∧ IntKind.u64.wrap (s : Int) = (s : Int) := by decide +kernel
theorem shr_bits : ∀ s ∈ List.range 32, ∀ c ∈ List.range 5, (s : Int) / 2 ^ c = ((s >>> c : Nat) : Int) := by decide +kernel
theorem minorC_zero {f : Nat → Nat → Int} {M : List Int} {row s d : Nat} {acc g : Int} (h : (s >>> d) % 2 = 0) : minorC f M row s (d + 1) acc g = minorC f M row s d acc g := by
  conv => lhs; unfold minorC
  rw [if_pos h]
theorem minorC_one {f : Nat → Nat → Int} {M : List Int} {row s d : Nat} {acc g m : Int} (h : (s >>> d) % 2 = 1) (hm : M.getD (s - 2 ^ d) 0 = m) : minorC f M row s (d + 1) acc g = minorC f M row s d (if m = 0 then acc else acc + g * f row d * m) (-g) := by
  conv => lhs; unfold minorC
  rw [if_neg (by omega), hm]
theorem acc_keep {K x n d : Nat} (h : x ≤ (n - (d + 1)) * K) (hd : d + 1 ≤ n) : x ≤ (n - d) * K := Nat.le_trans h (Nat.mul_le_mul_right _ (by omega))
theorem acc_more {K x y n d : Nat} (h : x ≤ (n - (d + 1)) * K) (hy : y ≤ x + K) (hd : d + 1 ≤ n) : y ≤ (n - d) * K := by
  rw [show n - d = n - (d + 1) + 1 by omega, Nat.add_mul, Nat.one_mul]
  omega
theorem acc_top {K x n d : Nat} (h : x ≤ (n - d) * K) (hn : n ≤ 5) : x ≤ 5 * K := Nat.le_trans h (Nat.mul_le_mul_right _ (by omega))
set_option maxRecDepth 100000 in
set_option maxHeartbeats 4000000 in
theorem det_any (A : Option Addr) (xs : List IR) (cp n : Nat) (q : Int) (w : World) (hrows : RowsAt w A xs) (hn : xs.length = n) (hl : ∀ x ∈ xs, x.l.length = n + 1) (h1 : 1 ≤ n) (h5 : n ≤ 5) (hf : SmallF (colQ (xs.map IR.l) q) n) :
    Calls Tryz.prog 123 #[.slice A n cp, .int .i64 q] w fun e w' => e = .returned (.int .i64 (detP (colQ (xs.map IR.l) q) n)) ∧ Below w.heap.size w w' := by
  obtain ⟨f, hfe⟩ : ∃ f, colQ (xs.map IR.l) q = f := ⟨_, rfl⟩
  have hAt := Lib.hid fun (row col : Nat) (h1 : row < n) (h2 : col < n) W (hb : Below w.heap.size w W) (e1 : W.heap[w.heap.size]? = some (.cells #[.slice A n cp] 195 (0, 0))) (e2 : W.heap[w.heap.size + 1]? = some (.cells #[.int .i64 q] 3 (0, 0))) (e3 : W.heap[w.heap.size + 2]? = some (.cells #[.int .i64 n] 3 (0, 0))) =>
    det1_any A xs cp n q (w.heap.size + 1) (w.heap.size + 2) w.heap.size row col W e2 e3 e1 (hrows.below hb) hn hl h1 h2
  rw [hfe] at hAt hf ⊢
  clear hfe hrows hl hn
  obtain ⟨P, hP⟩ : ∃ P, 2 ^ n = P := ⟨_, rfl⟩
  have hP2 : 2 ≤ P ∧ P ≤ 32 := by
    rcases n with _ | _ | _ | _ | _ | _ | n <;> first | omega | (subst hP; decide)
  have hmk := Lib.hid (run_mkInts P (by omega))
  have hP' := Lib.hid hP
  have hf' := Lib.hid hf
  have h00 : (encZ (List.replicate P 0))[0]? = some (.int .i64 0) := by rw [encZ_get, List.getElem?_replicate, if_pos (by omega)]; rfl
  have hpI : (2 : Int) ^ n = (P : Int) := by rw [← hP]; simp
  clear hP hf
  go_enter Tryz.func123, Tryz.ntmps123
  have hmk' := hmk.out
  go_wp2
  clear h00 hmk'
  go_loopw [8] (fun i wr => ∃ s : Nat, 1 ≤ s ∧ s ≤ P ∧ i = .int .i64 s ∧ Hid ((wr.heap[w.heap.size]? = some (.cells #[.slice A n cp] 195 (0, 0)) ∧ wr.heap[w.heap.size + 1]? = some (.cells #[.int .i64 q] 3 (0, 0)) ∧ wr.heap[w.heap.size + 2]? = some (.cells #[.int .i64 n] 3 (0, 0)) ∧ IntsAt 3 wr (w.heap.size + 3) (if s < P then detMem f n s 0 else detMem f n (s - 1) (minorS f n (dpM f n (s - 2)) (s - 1))) ∧ Below w.heap.size w wr))) (fun i _ => P - (intOf i).toNat)
  case atStart =>
    refine ⟨1, Nat.le_refl _, by omega, rfl, ?_, ?_, ?_, ?_, ?_⟩
    · (repeat (first | assumption | (refine bk_new _ _ ?_; (simp; done)) | refine bk_drew ?_ | refine bk_alloc ?_ _ | refine bk_set ?_ (by simp <;> omega) _))
    · (repeat (first | assumption | (refine bk_new _ _ ?_; (simp; done)) | refine bk_drew ?_ | refine bk_alloc ?_ _ | refine bk_set ?_ (by simp <;> omega) _))
    · (repeat (first | assumption | (refine bk_new _ _ ?_; (simp; done)) | refine bk_drew ?_ | refine bk_alloc ?_ _ | refine bk_set ?_ (by simp <;> omega) _))
    · rw [if_pos (by omega), ← detMem_first h1, hP'.out]
      have := IntsAt.new (T := 3) (((w.alloc (.cells #[.slice A n cp] 195 (0, 0))).alloc (.cells #[.int .i64 q] 3 (0, 0))).alloc (.cells #[.int .i64 n] 3 (0, 0))) ((List.replicate P 0).set 0 1)
      simp only [World.size_alloc] at this
      rw [encZ_set]
      exact this
    · go_grown
  case round =>
    obtain ⟨s, hs1, hsP, rfl, hmem⟩ := hrel
    obtain ⟨m0, m1, m2, m3, hbw⟩ := hmem.out
    clear hmem
    have C2 := bk1 m2
    by_cases hlt : s < P
    · have hsI : (s : Int) < (P : Int) := by omega
      rw [if_pos hlt] at m3
      have hs32 : s ∈ List.range 32 := List.mem_range.2 (by omega)
      obtain ⟨db1, db2, db3, db4⟩ := det_bits n (List.mem_range.2 (by omega)) s (List.mem_range.2 (by rw [hP'.out]; exact hlt)) (by omega)
      obtain ⟨row, hrow⟩ : ∃ row, pcn 8 s - 1 = row := ⟨_, rfl⟩
      rw [hrow] at db1 db2 db3
      have hO := Lib.hid fun W => ones_any s (by omega) W
      rw [← db1] at hO
      have hsm := Lib.hid fun (d : Nat) (hd : d < n) (hb : (s >>> d) % 2 = 1) => (by
        obtain ⟨r, rfl⟩ : ∃ r, s = r + 1 := ⟨s - 1, by omega⟩
        exact dpM_small h5 hf'.out (by rw [hP'.out]; exact hlt) hd hb : ((dpM f n (s - 1)).getD (s - 2 ^ d) 0).natAbs ≤ 16000000000000 ∧ 2 ^ d ≤ s ∧ pop n s - 1 < n)
      have hnext := Lib.hid fun h => detMem_next (f := f) (n := n) (s := s) hs1 h
      have hV0 : Hid (minorC f (dpM f n (s - 1)) row s n 0 1 = minorS f n (dpM f n (s - 1)) s) := by unfold minorS; rw [db2]; exact rfl
      have hbits := Lib.hid (shr_bits s hs32)
      have hand := Lib.hid (and_not_bits s hs32)
      obtain ⟨V, hV⟩ : ∃ V, minorS f n (dpM f n (s - 1)) s = V := ⟨_, rfl⟩
      rw [hV] at hnext hV0
      have hV' := Lib.hid hV
      clear hV hrow db1 db2 hs32
      have hs32 := Lib.hid (show s < 32 by omega)
      go_wp2_with (go_at_call 141; refine (hO.out _).mono ?_; rintro e w2 ⟨rfl, rfl⟩)
      clear hO db4
      go_loopw [10, 11] (fun sg j wr => ∃ (c : Nat) (g acc : Int), c ≤ n ∧ j = .int .i64 ((c : Int) - 1) ∧ sg = .int .i64 g ∧ (g = 1 ∨ g = -1) ∧ Hid (minorC f (dpM f n (s - 1)) row s c acc g = V) ∧ Hid (acc.natAbs ≤ (n - c) * 6400000000000000) ∧ Hid ((wr.heap[w.heap.size]? = some (.cells #[.slice A n cp] 195 (0, 0)) ∧ wr.heap[w.heap.size + 1]? = some (.cells #[.int .i64 q] 3 (0, 0)) ∧ wr.heap[w.heap.size + 2]? = some (.cells #[.int .i64 n] 3 (0, 0)) ∧ IntsAt 3 wr (w.heap.size + 3) (detMem f n s acc) ∧ Below w.heap.size w wr))) (fun _ j _ => (intOf j + 1).toNat)
      case atStart =>
        exact ⟨n, 1, 0, Nat.le_refl _, rfl, rfl, .inl rfl, hV0.out, by show (0 : Int).natAbs ≤ _; omega, m0, m1, m2, m3, hbw⟩
      case round =>
        clear m0 m1 m2 m3 hbw C2
        obtain ⟨c', g, acc, hc, rfl, rfl, hg, hmc, hacc, hmem⟩ := hrel
        obtain ⟨m0, m1, m2, m3, hbw⟩ := hmem.out
        clear hmem
        have C2 := bk1 m2
        rcases c' with _ | d
        · have hj : ((0 : Nat) : Int) - 1 = -1 := rfl
          rw [hj]
          have hacc0 : acc = V := hmc.out
          subst hacc0
          go_wp2
          go_roundw
          case rel =>
            refine ⟨s + 1, by omega, by omega, by go_num, m0, m1, m2, ?_, hbw⟩
            by_cases hl : s + 1 < P
            · rw [if_pos hl, ← hnext.out (by rw [hP'.out]; exact hl)]
              exact m3
            · rw [if_neg hl, show s + 1 - 1 = s by omega, show s + 1 - 2 = s - 1 by omega, hV'.out]
              exact m3
          case measure => first | (simp [intOf]; done) | (simp [intOf]; omega)
        · have hj : ((d + 1 : Nat) : Int) - 1 = (d : Int) := by omega
          rw [hj]
          obtain ⟨t, ht⟩ : ∃ t, s >>> d = t := ⟨_, rfl⟩
          have hsd : (s : Int) / 2 ^ d = (t : Int) := by rw [← ht]; exact hbits.out d (List.mem_range.2 (by omega))
          have ht32 : t < 32 := by
            have : s >>> d ≤ s := by rw [Nat.shiftRight_eq_div_pow]; exact Nat.div_le_self _ _
            have := hs32.out
            omega
          have hb1 : bits .and .i64 (t : Int) 1 = ((t % 2 : Nat) : Int) := and_one_bits t (List.mem_range.2 ht32)
          rcases Nat.mod_two_eq_zero_or_one t with hb | hb
          · rw [hb] at hb1
            simp only [Int.natCast_zero, Int.natCast_one, Int.cast_ofNat_Int] at hb1
            have hmc2 := Lib.hid ((minorC_zero (by rw [ht]; exact hb)).symm.trans hmc.out)
            clear hb ht ht32
            go_wp2
            go_roundw
            case rel =>
              exact ⟨d, g, acc, by omega, rfl, rfl, hg, hmc2.out, acc_keep hacc.out hc, m0, m1, m2, m3, hbw⟩
            case measure => first | (simp [intOf]; done) | (simp [intOf]; omega)
          · rw [hb] at hb1
            simp only [Int.natCast_zero, Int.natCast_one, Int.cast_ofNat_Int] at hb1
            obtain ⟨z1, z2, z3⟩ := hsm.out d (by omega) (by rw [ht]; exact hb)
            obtain ⟨m, hm⟩ : ∃ m, (dpM f n (s - 1)).getD (s - 2 ^ d) 0 = m := ⟨_, rfl⟩
            have hmc2 := Lib.hid (hmc.out.symm.trans (minorC_one (by rw [ht]; exact hb) hm))
            obtain ⟨D, hD⟩ : ∃ D, 2 ^ d = D := ⟨_, rfl⟩
            have hD1 : 1 ≤ D := by rw [← hD]; exact Nat.one_le_two_pow
            have hDI : (2 : Int) ^ d = (D : Int) := by rw [← hD]; simp
            have hD16 : D ≤ 32 := by rw [hD] at z2; omega
            have han : bits .andNot .i64 (s : Int) (D : Int) = ((s - D : Nat) : Int) := by rw [← hD]; exact hand.out d (List.mem_range.2 (by omega)) (by rw [ht]; exact hb)
            rw [hm] at z1
            rw [hD] at z2 hm
            obtain ⟨k, hk⟩ : ∃ k, s - D = k := ⟨_, rfl⟩
            rw [hk] at han hm
            have ck : wr.cell? ⟨w.heap.size + 3, k, none⟩ = some (.int .i64 m) := m3.load (by rw [detMem_old hs1 (by omega), hm])
            have hkI : (k : Int) < (P : Int) := by omega
            have hsd2 : (s : Int) / (D : Int) = (t : Int) := by rw [← hDI]; exact hsd
            clear hb ht ht32 hm hmc hk hD
            by_cases hm0 : m = 0
            · subst hm0
              have hmc3 := Lib.hid (show minorC f (dpM f n (s - 1)) row s d acc (-g) = V from by have := hmc2.out; rw [if_pos rfl] at this; exact this.symm)
              clear hmc2
              have hg2 : -g = 1 ∨ -g = -1 := by omega
              go_wp2
              go_roundw
              case rel => exact ⟨d, -g, acc, by omega, rfl, rfl, hg2, hmc3.out, acc_keep hacc.out hc, m0, m1, m2, m3, hbw⟩
              case measure => first | (simp [intOf]; done) | (simp [intOf]; omega)
            · have hg2 : -g = 1 ∨ -g = -1 := by omega
              have hf1 := hf'.out row d db3 (by omega)
              obtain ⟨v, hv⟩ : ∃ v, f row d = v := ⟨_, rfl⟩
              rw [hv] at hf1 hmc2
              have hA := Lib.hid fun W hb e1 e2 e3 => hAt.out row d db3 (by omega) W hb e1 e2 e3
              rw [hv] at hA
              obtain ⟨g1, hg1⟩ : ∃ g1, g * v = g1 := ⟨_, rfl⟩
              obtain ⟨g3, hg3⟩ : ∃ g3, g1 * m = g3 := ⟨_, rfl⟩
              have hg1b : g1.natAbs ≤ 400 := by rw [← hg1]; rcases hg with rfl | rfl <;> omega
              have hg3b : g3.natAbs ≤ 6400000000000000 := by
                rw [← hg3]
                exact Nat.le_trans (abs_mul hg1b z1) (by decide)
              have hact := acc_top hacc.out h5
              obtain ⟨a2, ha2⟩ : ∃ a2, acc + g3 = a2 := ⟨_, rfl⟩
              have ha2b : a2.natAbs ≤ acc.natAbs + 6400000000000000 := by omega
              have hw1 : IntKind.i64.wrap (g * v) = g1 := by rw [hg1]; exact IntWalk.i64_in _ (by omega)
              have hw2 : IntKind.i64.wrap (g1 * m) = g3 := by rw [hg3]; exact IntWalk.i64_in _ (by omega)
              have hw3 : IntKind.i64.wrap (acc + g3) = a2 := by rw [ha2]; exact IntWalk.i64_in _ (by omega)
              have hmc3 := Lib.hid (show minorC f (dpM f n (s - 1)) row s d a2 (-g) = V from by have := hmc2.out; rw [if_neg hm0, hg1, hg3, ha2] at this; exact this.symm)
              have hacc2 := Lib.hid (acc_more hacc.out ha2b hc)
              have cs : wr.cell? ⟨w.heap.size + 3, s, none⟩ = some (.int .i64 acc) := m3.load (detMem_cur hs1)
              have hmz : (m != 0) = true := by simpa using hm0
              clear hmc2 hg1 hg3 ha2 hg1b hg3b hact ha2b hm0 hf1 z1 hv
              have hA2 := Lib.hid fun (x : Grew wr) => hA.out x.val (via hbw x.ok) (bk_keep x.ok m0) (bk_keep x.ok m1) (bk_keep x.ok m2)
              have hsz := m3.size
              have hrow1 : (row : Int) + 1 - 1 = (row : Int) := by omega
              clear hA
              go_wp2
              refine region_in w 14 (by kernel_rfl) (by kernel_rfl) (by go_grown) ?_
              intro hgc hbx
              simp only [List.take_succ_cons, List.take_zero, List.drop_succ_cons, List.drop_zero]
              repeat (go_big_quiet_step ((go_at_call 140; with_reducible exact Grew.call_same (hA2.out _))))
              refine wpQuiet_nil ?_
              intro wb hb_wb hw_wb hs_wb
              clear hgc hbx
              have n0 := bk_keep hb_wb m0
              have n1 := bk_keep hb_wb m1
              have n2 := bk_keep hb_wb m2
              have n3 := m3.below hb_wb
              have cs2 := n3.load (detMem_cur hs1)
              have fs2 := n3.frozen s
              clear m0 m1 m2 m3 C2 cs ck hA2
              go_wp2
              go_roundw
              case rel =>
                have n4 := n3.store s a2
                rw [detMem_set hs1] at n4
                exact ⟨d, -g, a2, by omega, rfl, rfl, hg2, hmc3.out, hacc2.out, bk_set n0 (by simp <;> omega) _, bk_set n1 (by simp <;> omega) _, bk_set n2 (by simp <;> omega) _, n4, hw_wb.setCell (by simp <;> omega) _⟩
              case measure => first | (simp [intOf]; done) | (simp [intOf]; omega)
    · have hsP2 : s = P := by omega
      subst hsP2
      rw [if_neg (by omega)] at m3
      have hlast := m3.load (k := s - 1) (x := detP f n) (by
        have := detMem_last (f := f) (n := n) (s := s - 1) (by omega) (by rw [hP'.out]; omega)
        rw [hP'.out] at this
        exact this)
      obtain ⟨k, hk⟩ : ∃ k, s - 1 = k := ⟨_, rfl⟩
      rw [hk] at hlast
      have hkI : (s : Int) - 1 = (k : Int) := by omega
      have hkI2 : (k : Int) < (s : Int) := by omega
      clear hlt
      go_wp2
      go_ret
      exact ⟨rfl, hbw⟩
end Go.Proofs
