import Derived.Test.YtpmliaildjomeaaGreatDoorMg4
import Derived.Test.YtpmliaildjomeaaGreatDoorMg14
import Derived.Test.YtpmliaildjomeaaGreatDoorMg16
import Derived.Test.YtpmliaildjomeaaGreatDoorMg5
import Derived.Test.YtpmliaildjomeaaGreatDoorMg12
import Derived.Test.YtpmliaildjomeaaGreatDoorMg7
set_option linter.unusedSimpArgs false
set_option linter.unusedVariables false
namespace Go.Proofs
open Go.RowKit

set_option maxRecDepth 100000 in
set_option maxHeartbeats 1000000 in
theorem refName_any (s : ByteArray) (w : World) (hs : s.size ≤ 9223372036854775807) :
    Calls Tryz.prog 26 #[.string s] w fun e w' => e = .returned (.bool (nameB s.data.toList)) ∧ w = w' := by
  have hlen : Hid (s.data.toList.length = s.size) := by simp [Hid]
  by_cases h1 : s.size < 1
  · have i1 : (s.size : Int) < 1 := by omega
    have hv : nameB s.data.toList = false := by unfold nameB; rw [hlen.out]; simp; omega
    rw [hv]
    clear hv hlen
    go_enter Tryz.func26, Tryz.ntmps26
    go_wp2
    go_ret
    exact ⟨rfl, rfl⟩
  · have i1 : ¬ (s.size : Int) < 1 := by omega
    by_cases h2 : 12 < s.size
    · have i2 : 12 < (s.size : Int) := by omega
      have hv : nameB s.data.toList = false := by unfold nameB; rw [hlen.out]; simp; omega
      rw [hv]
      clear hv hlen
      go_enter Tryz.func26, Tryz.ntmps26
      go_wp2
      go_ret
      exact ⟨rfl, rfl⟩
    · have i2 : ¬ 12 < (s.size : Int) := by omega
      go_enter Tryz.func26, Tryz.ntmps26
      go_wp2
      go_loop [3] (fun i => ∃ k : Nat, k ≤ s.size ∧ i = .int .i64 k ∧ Hid (∀ j, j < k → charOk j ((s.data.toList.getD j 0).toNat : Int) = true)) (fun i => s.size - (intOf i).toNat)
      case atStart => exact ⟨0, Nat.zero_le _, rfl, fun j hj => by omega⟩
      case round =>
        obtain ⟨k, hk, rfl, hok⟩ := hrel
        by_cases hlt : k < s.size
        · obtain ⟨c, hc⟩ : ∃ c : UInt8, s[k]'hlt = c := ⟨_, rfl⟩
          have hc' : Hid (s.data.toList.getD k 0 = c) := by
            unfold Hid
            rw [← hc, List.getD_eq_getElem?_getD, List.getElem?_eq_getElem (by rw [hlen.out]; exact hlt)]
            simp; rfl
          have hb0 : (0 : Int) ≤ (c.toNat : Int) := by omega
          by_cases h0 : k = 0
          · have hk0 : ((k : Int) == 0) = true := by simp [h0]
            have h0' := Lib.hid h0
            clear h0
            go_wp2
            all_goals first
              | (exfalso; have := h0'.out; simp at *; omega)
              | (go_round
                 case rel => exact ⟨k + 1, by omega, by go_num, chars_more hok hc' (ok_is _ _ (by have := h0'.out; simp at *; omega))⟩
                 case measure => simp [intOf]; omega)
              | (go_ret; exact ⟨ret_bool (name_not (k := k) hlen hlt hc' (ok_not _ _ (by have := h0'.out; simp at *; omega))).symm, rfl⟩)
          · have hk0 : ((k : Int) == 0) = false := by simp [h0]
            go_wp2
            all_goals first
              | (exfalso; simp at *; omega)
              | (go_round
                 case rel => exact ⟨k + 1, by omega, by go_num, chars_more hok hc' (ok_is _ _ (by simp at *; omega))⟩
                 case measure => simp [intOf]; omega)
              | (go_ret; exact ⟨ret_bool (name_not (k := k) hlen hlt hc' (ok_not _ _ (by simp at *; omega))).symm, rfl⟩)
        · have hkk : k = s.size := by omega
          subst hkk
          have hcs : charsOk s.data.toList = true := charsOk_of _ (fun j hj => hok.out j (by rw [hlen.out] at hj; exact hj))
          have hv : nameB s.data.toList = true := by unfold nameB; rw [hcs, hlen.out]; simp; omega
          go_wp2
          go_ret
          exact ⟨rfl, rfl⟩

def rangeE (lo hi m : Int) : Int := firstE [unl (within lo 0 m && within hi 0 m) 2, unl (decide (lo ≤ hi)) 9]
end Go.Proofs

set_option linter.unusedSimpArgs false
set_option linter.unusedVariables false
namespace Go.Proofs
open Go.RowKit

/-- The size of a number is at most another one. -/
def smallB (n m : Int) : Bool := within n (-m) m
theorem csmall_any (n m : Int) (w : World) (hm : m.natAbs ≤ 9000000000000000000) : Calls Tryz.prog 34 #[.int .i64 n, .int .i64 m] w fun e w' => e = .returned (.bool (smallB n m)) ∧ w = w' := by
  have hw1 : IntKind.i64.wrap (-m) = -m := IntWalk.i64_in _ (by omega)
  go_enter Tryz.func34, Tryz.ntmps34
  go_wp2_with (go_at_call 33; refine (within_any _ _ _ _).mono ?_; rintro e w' ⟨rfl, rfl⟩)
  go_ret
  exact ⟨rfl, rfl⟩
theorem down_any (n b : Int) (w : World) (hb : 0 < b) (hn : n.natAbs ≤ 9000000000000000000) : Calls Tryz.prog 30 #[.int .i64 n, .int .i64 b] w fun e w' => e = .returned (.int .i64 (n / b)) ∧ w = w' := by
  have hbn : ¬ b = 0 := by omega
  have hbb : (b == 0) = false := by simpa using hbn
  have hq : (n.tdiv b).natAbs ≤ n.natAbs := by rw [Int.natAbs_tdiv]; exact Nat.div_le_self _ _
  have hw1 : IntKind.i64.wrap (n.tdiv b) = n.tdiv b := IntWalk.i64_in _ (by omega)
  by_cases h : n.tmod b < 0
  · have hw2 : IntKind.i64.wrap (n.tdiv b - 1) = n.tdiv b - 1 := IntWalk.i64_in _ (by omega)
    go_enter Tryz.func30, Tryz.ntmps30
    go_wp2
    go_ret
    exact ⟨ret_int (floor_neg n b hb h), rfl⟩
  · go_enter Tryz.func30, Tryz.ntmps30
    go_wp2
    go_ret
    exact ⟨ret_int (floor_pos n b hb (by omega)), rfl⟩
def lowG (n b : Int) : Int := (gcdL 0 [n, b] : Int)
theorem lowG_of (n b : Int) (hb : 0 < b) : 0 < lowG n b ∧ lowG n b ∣ n ∧ lowG n b ∣ b := by
  have h1 := gcdL_pos (l := [n, b]) (g := 0) b (by simp) (by omega)
  have h2 := (gcdL_dvd [n, b] 0).2
  exact ⟨by unfold lowG; omega, h2 n (by simp), h2 b (by simp)⟩
set_option maxRecDepth 100000 in
theorem lowest_any (n b : Int) (w : World) (hb : 0 < b) (hn : n.natAbs ≤ 1000000000000000000) (hb2 : b.natAbs ≤ 1000000000000000000) : Calls Tryz.prog 60 #[.int .i64 n, .int .i64 b] w fun e w' =>
    e = .returned (.agg #[.int .i64 (n / lowG n b), .int .i64 (b / lowG n b)]) ∧ Below w.heap.size w w' := by
  obtain ⟨g0, g1, g2⟩ := lowG_of n b hb
  have hw1 : IntKind.i64.wrap (n.tdiv (lowG n b)) = n / lowG n b := wrap_div g0 g1 hn (by decide)
  have hw2 : IntKind.i64.wrap (b.tdiv (lowG n b)) = b / lowG n b := wrap_div g0 g2 hb2 (by decide)
  have hD := Lib.hid (by
    have h0 := (IntsAt.new (T := 3) (w.alloc (.cells #[.int .i64 0, .int .i64 0] 60 (0, 0))) [n, b]).at'
    simp only [World.size_alloc] at h0
    exact divisor_any (some ⟨w.heap.size + 1, 0, none⟩) [n, b] 2 ((w.alloc (.cells #[.int .i64 0, .int .i64 0] 60 (0, 0))).alloc (.cells #[.int .i64 n, .int .i64 b] 3 (0, 0))) h0 (by simp) (by
      intro x hx
      simp only [List.mem_cons, List.not_mem_nil, or_false] at hx
      rcases hx with rfl | rfl <;> omega) : Calls Tryz.prog 85 #[.slice (some ⟨w.heap.size + 1, 0, none⟩) 2 2] ((w.alloc (.cells #[.int .i64 0, .int .i64 0] 60 (0, 0))).alloc (.cells #[.int .i64 n, .int .i64 b] 3 (0, 0))) fun e w' => e = .returned (.int .i64 (gcdL 0 [n, b] : Nat)) ∧ Below ((w.alloc (.cells #[.int .i64 0, .int .i64 0] 60 (0, 0))).alloc (.cells #[.int .i64 n, .int .i64 b] 3 (0, 0))).heap.size ((w.alloc (.cells #[.int .i64 0, .int .i64 0] 60 (0, 0))).alloc (.cells #[.int .i64 n, .int .i64 b] 3 (0, 0))) w')
  obtain ⟨g, hg⟩ : ∃ g, lowG n b = g := ⟨_, rfl⟩
  have hg' : ((gcdL 0 [n, b] : Nat) : Int) = g := hg
  rw [hg'] at hD
  rw [hg] at g0 hw1 hw2 ⊢
  have hgn : ¬ g = 0 := by omega
  have hgb : (g == 0) = false := by simpa using hgn
  clear hg hg' g1 g2
  go_enter Tryz.func60, Tryz.ntmps60
  go_wp2_with (go_at_call 85; refine hD.out.mono ?_; rintro e w2 ⟨rfl, hb2'⟩)
  have M0 := bk_keep hb2' (by (repeat (first | assumption | (refine bk_new _ _ ?_; (simp; done)) | refine bk_drew ?_ | refine bk_alloc ?_ _ | refine bk_set ?_ (by simp <;> omega) _)) : ((w.alloc (.cells #[.int .i64 0, .int .i64 0] 60 (0, 0))).alloc (.cells #[.int .i64 n, .int .i64 b] 3 (0, 0))).heap[w.heap.size]? = some (.cells #[.int .i64 0, .int .i64 0] 60 (0, 0)))
  have hbw : Below w.heap.size w w2 := via (by go_grown) hb2'
  clear hb2'
  refine region_in w 7 (by kernel_rfl) (by kernel_rfl) (by go_grown) ?_
  intro hgc hbx
  simp only [List.take_succ_cons, List.take_zero, List.drop_succ_cons, List.drop_zero]
  repeat (go_big_quiet_step (fail))
  refine wpQuiet_nil ?_
  intro wb hb_wb hw_wb hs_wb
  clear hgc hbx
  have M1 := bk_keep hb_wb M0
  have C1 := bk2 M1
  go_wp2
  refine bodyPost_ret (v := .agg #[.int .i64 (n / g), .int .i64 (b / g)]) ?_ rfl ⟨rfl, ?_⟩
  · exact results_cell1 (p := 4) (ad := ⟨w.heap.size, 0, none⟩) rfl (by rfl) (run_loadBlock (T := 60) (cs := [.int .i64 (n / g), .int .i64 (b / g)]) (by kernel_rfl) (by kernel_rfl) (bk_here (bk_here M1 _ rfl) _ rfl))
  · go_grown
theorem isLess_any (k ag n d v : Int) (w : World) (hn : n.natAbs ≤ 1000000000000000) (hd : d.natAbs ≤ 1000000000000000) (hv : v.natAbs ≤ 1000) : Calls Tryz.prog 53 #[.agg #[.int .i64 k, .int .i64 ag], .agg #[.int .i64 n, .int .i64 d], .int .i64 v] w fun e w' =>
    e = .returned (.bool (if k = 1 then decide (n * 1000 < v * d) else decide (n < v * d))) ∧ Below w.heap.size w w' := by
  have hm := abs_mul hv hd
  obtain ⟨y, hy⟩ : ∃ y, v * d = y := ⟨_, rfl⟩
  rw [hy] at hm
  have hw1 : IntKind.i64.wrap (v * d) = y := by rw [hy]; exact IntWalk.i64_in _ (by omega)
  have hw2 : IntKind.i64.wrap (n * 1000) = n * 1000 := IntWalk.i64_in _ (by omega)
  rw [hy]
  clear hy hm
  by_cases hk : k = 1
  · subst hk
    go_enter Tryz.func53, Tryz.ntmps53
    go_wp2
    go_ret
    exact ⟨ret_bool (by simp), by go_grown⟩
  · have hkb : (k == 1) = false := by simpa using hk
    go_enter Tryz.func53, Tryz.ntmps53
    go_wp2
    go_ret
    exact ⟨ret_bool (by simp [hk]), by go_grown⟩
def askE (k ag : Int) : Int := firstE [unl (within k 0 1) 15, unl (within ag 0 400) 2]
theorem checkAsk_any (k ag : Int) (w : World) : Calls Tryz.prog 37 #[.agg #[.int .i64 k, .int .i64 ag]] w fun e w' => e = .returned (.int .i64 (askE k ag)) ∧ Below w.heap.size w w' := by
  unfold askE
  obtain ⟨b1, h1⟩ : ∃ b, within k 0 1 = b := ⟨_, rfl⟩
  obtain ⟨b2, h2⟩ : ∃ b, within ag 0 400 = b := ⟨_, rfl⟩
  have hW1 := Lib.hid fun W => within_any k 0 1 W
  have hW2 := Lib.hid fun W => within_any ag 0 400 W
  rw [h1] at hW1 ⊢
  rw [h2] at hW2 ⊢
  clear h1 h2
  go_enter Tryz.func37, Tryz.ntmps37
  go_wp2
  refine wp_world ?_
  intro w1 hw1
  have hb1 : Below w.heap.size w w1 := by rw [hw1]; go_grown
  have M0 : w1.heap[w.heap.size]? = some (.cells #[.int .i64 k, .int .i64 ag] 27 (0, 0)) := by rw [hw1]; (repeat (first | assumption | (refine bk_new _ _ ?_; (simp; done)) | refine bk_drew ?_ | refine bk_alloc ?_ _ | refine bk_set ?_ (by simp <;> omega) _))
  have D := bk2 M0
  clear hw1
  refine region_in w 8 (by kernel_rfl) (by kernel_rfl) hb1 ?_
  intro hgc hbx
  simp only [List.take_succ_cons, List.take_zero, List.drop_succ_cons, List.drop_zero]
  repeat (go_big_quiet_step (first
    | (go_at_call 33; first | with_reducible exact Grew.call_same (hW1.out _) | with_reducible exact Grew.call_same (hW2.out _))
    | (go_at_call 36; with_reducible exact Grew.call_same (unless_any _ _ _))))
  refine wpQuiet_nil ?_
  intro wb hb_wb hw_wb hs_wb
  clear hgc hbx
  go_wp2_with (go_at_call 35; refine (first2 _ _ _).mono ?_; rintro e w' ⟨rfl, rfl⟩)
  go_ret
  exact ⟨rfl, by go_grown⟩
end Go.Proofs

set_option linter.unusedSimpArgs false
set_option linter.unusedVariables false
namespace Go.Proofs
open Go.RowKit

set_option maxRecDepth 100000 in
set_option maxHeartbeats 1000000 in
theorem indexFunc_part (A : Option Addr) (l : List Pa) (c : Nat) (B : Nat) (f : Pa → Bool) (w : World) (hl : l.length ≤ 1000000) (hat : At 5 Pa.cs w A l)
    (hC : ∀ y ∈ l, ∀ W, Below w.heap.size w W → Calls Tryz.prog 94 (#[.agg #[.string y.nm, .int .i64 y.a0, .int .i64 y.a1, .int .i64 y.c0, .int .i64 y.c1]] ++ #[.pointer (some ⟨B, 0, none⟩)]) W fun e w' => e = .returned (.bool (f y)) ∧ Below W.heap.size W w') :
    Calls Tryz.prog 119 #[.slice A l.length c, .func (.func 94) #[] #[.pointer (some ⟨B, 0, none⟩)]] w fun e w' => (∃ r : Int, e = .returned (.int .i64 r) ∧ decide (0 ≤ r) = l.any f) ∧ Below w.heap.size w w' := by
  have hC' := Lib.hid hC
  have hat' := Lib.hid hat
  obtain ⟨n, hn⟩ : ∃ n, l.length = n := ⟨_, rfl⟩
  have hn' := Lib.hid hn
  rw [hn] at hl ⊢
  clear hat hC hn
  go_enter Tryz.func119, Tryz.ntmps119
  go_wp2_with fail
  go_loopw [8] (fun i wr => ∃ k : Nat, k ≤ n ∧ i = .int .i64 k ∧ Hid (((l.take k).any f) = false) ∧ Below w.heap.size w wr) (fun i _ => n - (intOf i).toNat)
  case atStart => exact ⟨0, Nat.zero_le _, rfl, rfl, Below.refl _ _⟩
  case round =>
    obtain ⟨k, hk, rfl, hno, hbw⟩ := hrel
    by_cases hlt : k < n
    · obtain ⟨y, hy⟩ : ∃ y, l[k]? = some y := ⟨_, List.getElem?_eq_getElem (by rw [hn'.out]; exact hlt)⟩
      obtain ⟨b, o, rfl, hbb, hc⟩ := hat'.out.below hbw k y hy
      have hCy := Lib.hid fun W hb => hC'.out y (List.mem_of_getElem? hy) W hb
      obtain ⟨q, hq⟩ : ∃ q, f y = q := ⟨_, rfl⟩
      have hnext : Hid (((l.take (k + 1)).any f) = q) := by
        obtain ⟨hk', he⟩ := List.getElem?_eq_some_iff.1 hy
        unfold Hid
        rw [List.take_succ_eq_append_getElem hk', List.any_append, he, hno.out]
        simpa using hq
      have hall : Hid (q = true → (l.any f) = true) := fun h => by
        rw [List.any_eq_true]
        exact ⟨y, List.mem_of_getElem? hy, by rw [hq, h]⟩
      rw [hq] at hCy
      (have y0 := hc 0 _ rfl; have y1 := hc 1 _ rfl; have y2 := hc 2 _ rfl; have y3 := hc 3 _ rfl; have y4 := hc 4 _ rfl; simp only [Nat.add_zero] at y0)
      have hkI : (k : Int) < (n : Int) := by omega
      clear hc hy hq hno hC'
      cases q
      · go_wp2_with (go_at_call 94; refine (hCy.out _ hbw).mono ?_; rintro e w1 ⟨rfl, hb⟩; have hbw := via hbw hb)
        go_roundw
        case rel => exact ⟨k + 1, by omega, by go_num, hnext, hbw⟩
        case measure => simp [intOf]; omega
      · have ht := hall.out rfl
        go_wp2_with (go_at_call 94; refine (hCy.out _ hbw).mono ?_; rintro e w1 ⟨rfl, hb⟩; have hbw := via hbw hb)
        go_ret
        exact ⟨⟨k, rfl, by rw [ht]; simp⟩, hbw⟩
    · have hkn : k = n := by omega
      subst hkn
      have hno2 := hno.out
      rw [List.take_of_length_le (by rw [hn'.out]; exact Nat.le_refl _)] at hno2
      have hno3 := Lib.hid hno2
      clear hno hno2 hC'
      go_wp2
      go_ret
      exact ⟨⟨-1, rfl, by rw [hno3.out]; decide⟩, hbw⟩
set_option maxRecDepth 100000 in
theorem containsFunc_part (A : Option Addr) (l : List Pa) (c : Nat) (B : Nat) (f : Pa → Bool) (w : World) (hl : l.length ≤ 1000000) (hat : At 5 Pa.cs w A l)
    (hC : ∀ y ∈ l, ∀ W, Below w.heap.size w W → Calls Tryz.prog 94 (#[.agg #[.string y.nm, .int .i64 y.a0, .int .i64 y.a1, .int .i64 y.c0, .int .i64 y.c1]] ++ #[.pointer (some ⟨B, 0, none⟩)]) W fun e w' => e = .returned (.bool (f y)) ∧ Below W.heap.size W w') :
    Calls Tryz.prog 93 #[.slice A l.length c, .func (.func 94) #[] #[.pointer (some ⟨B, 0, none⟩)]] w fun e w' => e = .returned (.bool (l.any f)) ∧ Below w.heap.size w w' := by
  have hI := indexFunc_part A l c B f w hl hat hC
  generalize (l.any f) = q at *
  generalize l.length = n at *
  clear hat hC
  go_enter Tryz.func93, Tryz.ntmps93
  go_wp2_with (go_at_call 119; refine hI.mono ?_; rintro e w1 ⟨⟨r, rfl, hr⟩, hb⟩)
  go_ret
  exact ⟨rfl, hb⟩
set_option maxRecDepth 100000 in
set_option maxHeartbeats 1000000 in
theorem indexFunc_entry (A : Option Addr) (l : List En) (c : Nat) (B : Nat) (f : En → Bool) (w : World) (hl : l.length ≤ 1000000) (hat : At 3 En.cs w A l)
    (hC : ∀ y ∈ l, ∀ W, Below w.heap.size w W → Calls Tryz.prog 97 (#[.agg #[.string y.nm, .slice y.A y.co.length y.c, .int .i64 y.mo]] ++ #[.pointer (some ⟨B, 0, none⟩)]) W fun e w' => e = .returned (.bool (f y)) ∧ Below W.heap.size W w') :
    Calls Tryz.prog 120 #[.slice A l.length c, .func (.func 97) #[] #[.pointer (some ⟨B, 0, none⟩)]] w fun e w' => (∃ r : Int, e = .returned (.int .i64 r) ∧ decide (0 ≤ r) = l.any f) ∧ Below w.heap.size w w' := by
  have hC' := Lib.hid hC
  have hat' := Lib.hid hat
  obtain ⟨n, hn⟩ : ∃ n, l.length = n := ⟨_, rfl⟩
  have hn' := Lib.hid hn
  rw [hn] at hl ⊢
  clear hat hC hn
  go_enter Tryz.func120, Tryz.ntmps120
  go_wp2_with fail
  go_loopw [8] (fun i wr => ∃ k : Nat, k ≤ n ∧ i = .int .i64 k ∧ Hid (((l.take k).any f) = false) ∧ Below w.heap.size w wr) (fun i _ => n - (intOf i).toNat)
  case atStart => exact ⟨0, Nat.zero_le _, rfl, rfl, Below.refl _ _⟩
  case round =>
    obtain ⟨k, hk, rfl, hno, hbw⟩ := hrel
    by_cases hlt : k < n
    · obtain ⟨y, hy⟩ : ∃ y, l[k]? = some y := ⟨_, List.getElem?_eq_getElem (by rw [hn'.out]; exact hlt)⟩
      obtain ⟨b, o, rfl, hbb, hc⟩ := hat'.out.below hbw k y hy
      have hCy := Lib.hid fun W hb => hC'.out y (List.mem_of_getElem? hy) W hb
      obtain ⟨q, hq⟩ : ∃ q, f y = q := ⟨_, rfl⟩
      have hnext : Hid (((l.take (k + 1)).any f) = q) := by
        obtain ⟨hk', he⟩ := List.getElem?_eq_some_iff.1 hy
        unfold Hid
        rw [List.take_succ_eq_append_getElem hk', List.any_append, he, hno.out]
        simpa using hq
      have hall : Hid (q = true → (l.any f) = true) := fun h => by
        rw [List.any_eq_true]
        exact ⟨y, List.mem_of_getElem? hy, by rw [hq, h]⟩
      rw [hq] at hCy
      (have y0 := hc 0 _ rfl; have y1 := hc 1 _ rfl; have y2 := hc 2 _ rfl; simp only [Nat.add_zero] at y0)
      have hkI : (k : Int) < (n : Int) := by omega
      clear hc hy hq hno hC'
      cases q
      · go_wp2_with (go_at_call 97; refine (hCy.out _ hbw).mono ?_; rintro e w1 ⟨rfl, hb⟩; have hbw := via hbw hb)
        go_roundw
        case rel => exact ⟨k + 1, by omega, by go_num, hnext, hbw⟩
        case measure => simp [intOf]; omega
      · have ht := hall.out rfl
        go_wp2_with (go_at_call 97; refine (hCy.out _ hbw).mono ?_; rintro e w1 ⟨rfl, hb⟩; have hbw := via hbw hb)
        go_ret
        exact ⟨⟨k, rfl, by rw [ht]; simp⟩, hbw⟩
    · have hkn : k = n := by omega
      subst hkn
      have hno2 := hno.out
      rw [List.take_of_length_le (by rw [hn'.out]; exact Nat.le_refl _)] at hno2
      have hno3 := Lib.hid hno2
      clear hno hno2 hC'
      go_wp2
      go_ret
      exact ⟨⟨-1, rfl, by rw [hno3.out]; decide⟩, hbw⟩
set_option maxRecDepth 100000 in
theorem containsFunc_entry (A : Option Addr) (l : List En) (c : Nat) (B : Nat) (f : En → Bool) (w : World) (hl : l.length ≤ 1000000) (hat : At 3 En.cs w A l)
    (hC : ∀ y ∈ l, ∀ W, Below w.heap.size w W → Calls Tryz.prog 97 (#[.agg #[.string y.nm, .slice y.A y.co.length y.c, .int .i64 y.mo]] ++ #[.pointer (some ⟨B, 0, none⟩)]) W fun e w' => e = .returned (.bool (f y)) ∧ Below W.heap.size W w') :
    Calls Tryz.prog 96 #[.slice A l.length c, .func (.func 97) #[] #[.pointer (some ⟨B, 0, none⟩)]] w fun e w' => e = .returned (.bool (l.any f)) ∧ Below w.heap.size w w' := by
  have hI := indexFunc_entry A l c B f w hl hat hC
  generalize (l.any f) = q at *
  generalize l.length = n at *
  clear hat hC
  go_enter Tryz.func96, Tryz.ntmps96
  go_wp2_with (go_at_call 120; refine hI.mono ?_; rintro e w1 ⟨⟨r, rfl, hr⟩, hb⟩)
  go_ret
  exact ⟨rfl, hb⟩
set_option maxRecDepth 100000 in
set_option maxHeartbeats 1000000 in
theorem indexFunc_coef (A : Option Addr) (l : List Int) (c : Nat)  (f : Int → Bool) (w : World) (hl : l.length ≤ 1000000) (hat : At 1 Zc w A l)
    (hC : ∀ y ∈ l, ∀ W, Below w.heap.size w W → Calls Tryz.prog 98 (#[.int .i64 y] ++ #[]) W fun e w' => e = .returned (.bool (f y)) ∧ Below W.heap.size W w') :
    Calls Tryz.prog 106 #[.slice A l.length c, .func (.func 98) #[] #[]] w fun e w' => (∃ r : Int, e = .returned (.int .i64 r) ∧ decide (0 ≤ r) = l.any f) ∧ Below w.heap.size w w' := by
  have hC' := Lib.hid hC
  have hat' := Lib.hid hat
  obtain ⟨n, hn⟩ : ∃ n, l.length = n := ⟨_, rfl⟩
  have hn' := Lib.hid hn
  rw [hn] at hl ⊢
  clear hat hC hn
  go_enter Tryz.func106, Tryz.ntmps106
  go_wp2_with fail
  go_loopw [8] (fun i wr => ∃ k : Nat, k ≤ n ∧ i = .int .i64 k ∧ Hid (((l.take k).any f) = false) ∧ Below w.heap.size w wr) (fun i _ => n - (intOf i).toNat)
  case atStart => exact ⟨0, Nat.zero_le _, rfl, rfl, Below.refl _ _⟩
  case round =>
    obtain ⟨k, hk, rfl, hno, hbw⟩ := hrel
    by_cases hlt : k < n
    · obtain ⟨y, hy⟩ : ∃ y, l[k]? = some y := ⟨_, List.getElem?_eq_getElem (by rw [hn'.out]; exact hlt)⟩
      obtain ⟨b, o, rfl, hbb, hc⟩ := hat'.out.below hbw k y hy
      have hCy := Lib.hid fun W hb => hC'.out y (List.mem_of_getElem? hy) W hb
      obtain ⟨q, hq⟩ : ∃ q, f y = q := ⟨_, rfl⟩
      have hnext : Hid (((l.take (k + 1)).any f) = q) := by
        obtain ⟨hk', he⟩ := List.getElem?_eq_some_iff.1 hy
        unfold Hid
        rw [List.take_succ_eq_append_getElem hk', List.any_append, he, hno.out]
        simpa using hq
      have hall : Hid (q = true → (l.any f) = true) := fun h => by
        rw [List.any_eq_true]
        exact ⟨y, List.mem_of_getElem? hy, by rw [hq, h]⟩
      rw [hq] at hCy
      (have y0 := hc 0 _ rfl; simp only [Nat.add_zero, Nat.mul_one] at y0)
      have hkI : (k : Int) < (n : Int) := by omega
      clear hc hy hq hno hC'
      cases q
      · go_wp2_with (go_at_call 98; refine (hCy.out _ hbw).mono ?_; rintro e w1 ⟨rfl, hb⟩; have hbw := via hbw hb)
        go_roundw
        case rel => exact ⟨k + 1, by omega, by go_num, hnext, hbw⟩
        case measure => simp [intOf]; omega
      · have ht := hall.out rfl
        go_wp2_with (go_at_call 98; refine (hCy.out _ hbw).mono ?_; rintro e w1 ⟨rfl, hb⟩; have hbw := via hbw hb)
        go_ret
        exact ⟨⟨k, rfl, by rw [ht]; simp⟩, hbw⟩
    · have hkn : k = n := by omega
      subst hkn
      have hno2 := hno.out
      rw [List.take_of_length_le (by rw [hn'.out]; exact Nat.le_refl _)] at hno2
      have hno3 := Lib.hid hno2
      clear hno hno2 hC'
      go_wp2
      go_ret
      exact ⟨⟨-1, rfl, by rw [hno3.out]; decide⟩, hbw⟩
set_option maxRecDepth 100000 in
theorem containsFunc_coef (A : Option Addr) (l : List Int) (c : Nat)  (f : Int → Bool) (w : World) (hl : l.length ≤ 1000000) (hat : At 1 Zc w A l)
    (hC : ∀ y ∈ l, ∀ W, Below w.heap.size w W → Calls Tryz.prog 98 (#[.int .i64 y] ++ #[]) W fun e w' => e = .returned (.bool (f y)) ∧ Below W.heap.size W w') :
    Calls Tryz.prog 77 #[.slice A l.length c, .func (.func 98) #[] #[]] w fun e w' => e = .returned (.bool (l.any f)) ∧ Below w.heap.size w w' := by
  have hI := indexFunc_coef A l c  f w hl hat hC
  generalize (l.any f) = q at *
  generalize l.length = n at *
  clear hat hC
  go_enter Tryz.func77, Tryz.ntmps77
  go_wp2_with (go_at_call 106; refine hI.mono ?_; rintro e w1 ⟨⟨r, rfl, hr⟩, hb⟩)
  go_ret
  exact ⟨rfl, hb⟩
set_option maxRecDepth 100000 in
set_option maxHeartbeats 1000000 in
theorem indexFunc_weight (A : Option Addr) (l : List Int) (c : Nat)  (f : Int → Bool) (w : World) (hl : l.length ≤ 1000000) (hat : At 1 Zc w A l)
    (hC : ∀ y ∈ l, ∀ W, Below w.heap.size w W → Calls Tryz.prog 78 (#[.int .i64 y] ++ #[]) W fun e w' => e = .returned (.bool (f y)) ∧ Below W.heap.size W w') :
    Calls Tryz.prog 106 #[.slice A l.length c, .func (.func 78) #[] #[]] w fun e w' => (∃ r : Int, e = .returned (.int .i64 r) ∧ decide (0 ≤ r) = l.any f) ∧ Below w.heap.size w w' := by
  have hC' := Lib.hid hC
  have hat' := Lib.hid hat
  obtain ⟨n, hn⟩ : ∃ n, l.length = n := ⟨_, rfl⟩
  have hn' := Lib.hid hn
  rw [hn] at hl ⊢
  clear hat hC hn
  go_enter Tryz.func106, Tryz.ntmps106
  go_wp2_with fail
  go_loopw [8] (fun i wr => ∃ k : Nat, k ≤ n ∧ i = .int .i64 k ∧ Hid (((l.take k).any f) = false) ∧ Below w.heap.size w wr) (fun i _ => n - (intOf i).toNat)
  case atStart => exact ⟨0, Nat.zero_le _, rfl, rfl, Below.refl _ _⟩
  case round =>
    obtain ⟨k, hk, rfl, hno, hbw⟩ := hrel
    by_cases hlt : k < n
    · obtain ⟨y, hy⟩ : ∃ y, l[k]? = some y := ⟨_, List.getElem?_eq_getElem (by rw [hn'.out]; exact hlt)⟩
      obtain ⟨b, o, rfl, hbb, hc⟩ := hat'.out.below hbw k y hy
      have hCy := Lib.hid fun W hb => hC'.out y (List.mem_of_getElem? hy) W hb
      obtain ⟨q, hq⟩ : ∃ q, f y = q := ⟨_, rfl⟩
      have hnext : Hid (((l.take (k + 1)).any f) = q) := by
        obtain ⟨hk', he⟩ := List.getElem?_eq_some_iff.1 hy
        unfold Hid
        rw [List.take_succ_eq_append_getElem hk', List.any_append, he, hno.out]
        simpa using hq
      have hall : Hid (q = true → (l.any f) = true) := fun h => by
        rw [List.any_eq_true]
        exact ⟨y, List.mem_of_getElem? hy, by rw [hq, h]⟩
      rw [hq] at hCy
      (have y0 := hc 0 _ rfl; simp only [Nat.add_zero, Nat.mul_one] at y0)
      have hkI : (k : Int) < (n : Int) := by omega
      clear hc hy hq hno hC'
      cases q
      · go_wp2_with (go_at_call 78; refine (hCy.out _ hbw).mono ?_; rintro e w1 ⟨rfl, hb⟩; have hbw := via hbw hb)
        go_roundw
        case rel => exact ⟨k + 1, by omega, by go_num, hnext, hbw⟩
        case measure => simp [intOf]; omega
      · have ht := hall.out rfl
        go_wp2_with (go_at_call 78; refine (hCy.out _ hbw).mono ?_; rintro e w1 ⟨rfl, hb⟩; have hbw := via hbw hb)
        go_ret
        exact ⟨⟨k, rfl, by rw [ht]; simp⟩, hbw⟩
    · have hkn : k = n := by omega
      subst hkn
      have hno2 := hno.out
      rw [List.take_of_length_le (by rw [hn'.out]; exact Nat.le_refl _)] at hno2
      have hno3 := Lib.hid hno2
      clear hno hno2 hC'
      go_wp2
      go_ret
      exact ⟨⟨-1, rfl, by rw [hno3.out]; decide⟩, hbw⟩
set_option maxRecDepth 100000 in
theorem containsFunc_weight (A : Option Addr) (l : List Int) (c : Nat)  (f : Int → Bool) (w : World) (hl : l.length ≤ 1000000) (hat : At 1 Zc w A l)
    (hC : ∀ y ∈ l, ∀ W, Below w.heap.size w W → Calls Tryz.prog 78 (#[.int .i64 y] ++ #[]) W fun e w' => e = .returned (.bool (f y)) ∧ Below W.heap.size W w') :
    Calls Tryz.prog 77 #[.slice A l.length c, .func (.func 78) #[] #[]] w fun e w' => e = .returned (.bool (l.any f)) ∧ Below w.heap.size w w' := by
  have hI := indexFunc_weight A l c  f w hl hat hC
  generalize (l.any f) = q at *
  generalize l.length = n at *
  clear hat hC
  go_enter Tryz.func77, Tryz.ntmps77
  go_wp2_with (go_at_call 106; refine hI.mono ?_; rintro e w1 ⟨⟨r, rfl, hr⟩, hb⟩)
  go_ret
  exact ⟨rfl, hb⟩
end Go.Proofs
