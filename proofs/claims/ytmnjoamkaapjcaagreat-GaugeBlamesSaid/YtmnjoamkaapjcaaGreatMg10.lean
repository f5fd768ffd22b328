import Derived.Test.YtmnjoamkaapjcaaGreatMg4
import Derived.Test.YtmnjoamkaapjcaaGreatMg8
set_option linter.unusedSimpArgs false
set_option linter.unusedVariables false
namespace Go.Proofs
open Go.RowKit

set_option maxRecDepth 100000 in
set_option maxHeartbeats 1000000 in
theorem refName_any (s : ByteArray) (w : World) (hs : s.size ≤ 9223372036854775807) :
    Calls Tryz.prog 93 #[.string s] w fun e w' => e = .returned (.bool (nameB s.data.toList)) ∧ w = w' := by
  have hlen : Hid (s.data.toList.length = s.size) := by simp [Hid]
  by_cases h1 : s.size < 1
  · have i1 : (s.size : Int) < 1 := by omega
    have hv : nameB s.data.toList = false := by unfold nameB; rw [hlen.out]; simp; omega
    rw [hv]
    clear hv hlen
    go_enter Tryz.func93, Tryz.ntmps93
    go_wp2
    go_ret
    exact ⟨rfl, rfl⟩
  · have i1 : ¬ (s.size : Int) < 1 := by omega
    by_cases h2 : 12 < s.size
    · have i2 : 12 < (s.size : Int) := by omega
      have hv : nameB s.data.toList = false := by unfold nameB; rw [hlen.out]; simp; omega
      rw [hv]
      clear hv hlen
      go_enter Tryz.func93, Tryz.ntmps93
      go_wp2
      go_ret
      exact ⟨rfl, rfl⟩
    · have i2 : ¬ 12 < (s.size : Int) := by omega
      go_enter Tryz.func93, Tryz.ntmps93
      go_wp2
      go_loop [3] (fun i => ∃ k : Nat, k ≤ s.size ∧ i = .int .i64 k ∧ Hid (∀ j, j < k → charOk j ((s.data.toList.getD j 0).toNat : Int) = true)) (fun i => s.size - (intOf i).toNat)
      case atStart => exact ⟨0, Nat.zero_le _, rfl, fun j hj => by omega⟩
      case round =>
        obtain ⟨k, hk, rfl, hok⟩ := hrel
        by_cases hlt : k < s.size
        · obtain ⟨c, hc⟩ : ∃ c : UInt8, s[k]'hlt = c := ⟨_, rfl⟩
          have hc' : Hid (s.data.toList.getD k 0 = c) := by
            unfold Hid
            rw [← hc, List.getD_eq_getElem?_getD, List.getElem?_eq_getElem (by rw [hlen.out]; exact hlt)]
            simp; rfl
          have hb0 : (0 : Int) ≤ (c.toNat : Int) := by omega
          by_cases h0 : k = 0
          · have hk0 : ((k : Int) == 0) = true := by simp [h0]
            have h0' := Lib.hid h0
            clear h0
            go_wp2
            all_goals first
              | (exfalso; have := h0'.out; simp at *; omega)
              | (go_round
                 case rel => exact ⟨k + 1, by omega, by go_num, chars_more hok hc' (ok_is _ _ (by have := h0'.out; simp at *; omega))⟩
                 case measure => simp [intOf]; omega)
              | (go_ret; exact ⟨ret_bool (name_not (k := k) hlen hlt hc' (ok_not _ _ (by have := h0'.out; simp at *; omega))).symm, rfl⟩)
          · have hk0 : ((k : Int) == 0) = false := by simp [h0]
            go_wp2
            all_goals first
              | (exfalso; simp at *; omega)
              | (go_round
                 case rel => exact ⟨k + 1, by omega, by go_num, chars_more hok hc' (ok_is _ _ (by simp at *; omega))⟩
                 case measure => simp [intOf]; omega)
              | (go_ret; exact ⟨ret_bool (name_not (k := k) hlen hlt hc' (ok_not _ _ (by simp at *; omega))).symm, rfl⟩)
        · have hkk : k = s.size := by omega
          subst hkk
          have hcs : charsOk s.data.toList = true := charsOk_of _ (fun j hj => hok.out j (by rw [hlen.out] at hj; exact hj))
          have hv : nameB s.data.toList = true := by unfold nameB; rw [hcs, hlen.out]; simp; omega
          go_wp2
          go_ret
          exact ⟨rfl, rfl⟩

theorem refDayErr_any (n : Int) (w : World) : Calls Tryz.prog 94 #[.int .i64 n] w fun e w' => e = .returned (.int .i64 (unl (within n 0 100000) 2)) ∧ w = w' := by
  have hW := Lib.hid fun W => refWithin_any n 0 100000 W
  cases h : within n 0 100000
  all_goals
    rw [h] at hW
    go_enter Tryz.func94, Tryz.ntmps94
    go_wp2_with (go_at_call 40; refine (hW.out _).mono ?_; rintro e w1 ⟨rfl, rfl⟩)
    go_ret
    exact ⟨rfl, rfl⟩
def rangeE (lo hi m : Int) : Int := firstE [unl (within lo 0 m && within hi 0 m) 2, unl (decide (lo ≤ hi)) 9]
set_option maxHeartbeats 400000 in
theorem refRangeErr_any (lo hi m : Int) (w : World) :
    Calls Tryz.prog 62 #[.agg #[.int .i64 lo, .int .i64 hi], .int .i64 m] w fun e w' => e = .returned (.int .i64 (rangeE lo hi m)) ∧ Below w.heap.size w w' := by
  have hW := Lib.hid fun W => refWithin_any lo 0 m W
  have hV := Lib.hid fun W => refWithin_any hi 0 m W
  unfold rangeE
  cases h : within lo 0 m
  · rw [h] at hW
    go_enter Tryz.func62, Tryz.ntmps62
    go_wp2_with (go_at_call 40; refine Calls.mono (by with_reducible exact hW.out _) ?_; rintro e w1 ⟨rfl, rfl⟩)
    go_ret
    exact ⟨rfl, new_below _ _⟩
  · cases h2 : within hi 0 m
    · rw [h] at hW
      rw [h2] at hV
      go_enter Tryz.func62, Tryz.ntmps62
      go_wp2_with (first | (go_at_call 40; refine Calls.mono (by with_reducible exact hW.out _) ?_; rintro e w1 ⟨rfl, rfl⟩) | (go_at_call 40; refine Calls.mono (by with_reducible exact hV.out _) ?_; rintro e w1 ⟨rfl, rfl⟩))
      go_ret
      exact ⟨rfl, new_below _ _⟩
    · rw [h] at hW
      rw [h2] at hV
      by_cases h3 : lo ≤ hi
      · have i3 : ¬ hi < lo := by omega
        go_enter Tryz.func62, Tryz.ntmps62
        go_wp2_with (first | (go_at_call 40; refine Calls.mono (by with_reducible exact hW.out _) ?_; rintro e w1 ⟨rfl, rfl⟩) | (go_at_call 40; refine Calls.mono (by with_reducible exact hV.out _) ?_; rintro e w1 ⟨rfl, rfl⟩))
        go_ret
        exact ⟨by simp [h3, firstE, unl], new_below _ _⟩
      · have i3 : hi < lo := by omega
        go_enter Tryz.func62, Tryz.ntmps62
        go_wp2_with (first | (go_at_call 40; refine Calls.mono (by with_reducible exact hW.out _) ?_; rintro e w1 ⟨rfl, rfl⟩) | (go_at_call 40; refine Calls.mono (by with_reducible exact hV.out _) ?_; rintro e w1 ⟨rfl, rfl⟩))
        go_ret
        exact ⟨by simp [h3, firstE, unl], new_below _ _⟩
end Go.Proofs

set_option linter.unusedSimpArgs false
set_option linter.unusedVariables false
namespace Go.Proofs
open Go.RowKit


theorem unl0 {b : Bool} {n : Int} (hn : (n == 0) = false) : (unl b n != 0) = !b := by
  unfold unl
  cases b <;> simp_all [bne]
theorem gaugingE_eq (s : List UInt8) (d lo hi : Int) :
    gaugingE s d lo hi = if nameB s = true then (if within d 0 100000 = true then rangeE lo hi 100000 else 2) else 4 := by
  unfold gaugingE rangeE
  cases nameB s <;> cases within d 0 100000 <;> cases within lo 0 100000 <;> cases within hi 0 100000 <;> simp [firstE, unl]

set_option maxHeartbeats 400000 in
theorem refReadingErr_any (s : ByteArray) (d lo hi : Int) (w : World) (hs : s.size ≤ 9223372036854775807) :
    Calls Tryz.prog 63 #[.agg #[.string s, .int .i64 d, .int .i64 lo, .int .i64 hi]] w fun e w' => e = .returned (.int .i64 (gaugingE s.data.toList d lo hi)) ∧ Below w.heap.size w w' := by
  rw [gaugingE_eq]
  have hN := Lib.hid fun W => refName_any s W hs
  have hD := Lib.hid fun W => refDayErr_any d W
  have hR := Lib.hid fun W => refRangeErr_any lo hi 100000 W
  generalize rangeE lo hi 100000 = R at *
  cases h1 : nameB s.data.toList
  · rw [h1] at hN
    go_enter Tryz.func63, Tryz.ntmps63
    go_wp2_with (first | (go_at_call 93; refine (hN.out _).mono ?_; rintro e w1 ⟨rfl, rfl⟩) | (go_at_call 94; refine (hD.out _).mono ?_; rintro e w1 ⟨rfl, rfl⟩) | (go_at_call 62; refine (hR.out _).mono ?_; rintro e w1 ⟨rfl, hb⟩; have hbw := via (by go_grown : Below w.heap.size w _) hb))
    go_ret
    exact ⟨rfl, new_below _ _⟩
  · rw [h1] at hN
    cases h2 : within d 0 100000
    · rw [h2] at hD
      clear h1 h2
      have e : unl false 2 = 2 := rfl
      rw [e] at hD
      clear e
      go_enter Tryz.func63, Tryz.ntmps63
      go_wp2_with (first | (go_at_call 93; refine (hN.out _).mono ?_; rintro e w1 ⟨rfl, rfl⟩) | (go_at_call 94; refine (hD.out _).mono ?_; rintro e w1 ⟨rfl, rfl⟩) | (go_at_call 62; refine (hR.out _).mono ?_; rintro e w1 ⟨rfl, hb⟩; have hbw := via (by go_grown : Below w.heap.size w _) hb))
      go_ret
      exact ⟨rfl, new_below _ _⟩
    · rw [h2] at hD
      clear h1 h2
      have e : unl true 2 = 0 := rfl
      rw [e] at hD
      clear e
      go_enter Tryz.func63, Tryz.ntmps63
      go_wp2_with (first | (go_at_call 93; refine (hN.out _).mono ?_; rintro e w1 ⟨rfl, rfl⟩) | (go_at_call 94; refine (hD.out _).mono ?_; rintro e w1 ⟨rfl, rfl⟩) | (go_at_call 62; refine (hR.out _).mono ?_; rintro e w1 ⟨rfl, hb⟩; have hbw := via (by go_grown : Below w.heap.size w _) hb))
      go_ret
      exact ⟨rfl, hbw⟩

def netA (l : List Mv) : Prop := ∀ m ∈ l, 0 ≤ m.v ∧ m.v ≤ 100000
set_option maxRecDepth 100000 in
set_option maxHeartbeats 1000000 in
theorem refNet_any (l0 l1 : Int) (sr : Value) (A : Option Addr) (l : List Mv) (cap : Nat) (cask : ByteArray) (lo hi : Int) (w : World)
    (hl : l.length ≤ 60) (hm : ∀ m ∈ l, 0 ≤ m.v ∧ m.v ≤ 100000) (hat : At 4 Mv.cs w A l) :
    Calls Tryz.prog 95 #[.agg #[.int .i64 l0, .int .i64 l1, sr, .slice A l.length cap], .string cask, .int .i64 lo, .int .i64 hi] w fun e w' => e = .returned (.int .i64 (netL l cask lo hi)) ∧ Below w.heap.size w w' := by
  have hm' := Lib.hid hm
  clear hm
  obtain ⟨n, hn⟩ : ∃ n, l.length = n := ⟨_, rfl⟩
  have hn' := Lib.hid hn
  rw [hn] at hl ⊢
  clear hn
  go_enter Tryz.func95, Tryz.ntmps95
  go_wp2
  go_loopw [9, 10] (fun s i wr => ∃ k : Nat, k ≤ n ∧ i = .int .i64 k ∧ s = .int .i64 ((l.take k).foldl (netStep cask lo hi) 0) ∧ Below w.heap.size w wr ∧ wr.heap[w.heap.size]? = some (.cells #[.int .i64 l0, .int .i64 l1, sr, .slice A n cap] 27 (0, 0))) (fun _ i _ => n - (intOf i).toNat)
  case atStart => exact ⟨0, Nat.zero_le _, rfl, by simp, new_below _ _, by (repeat (first | assumption | (refine bk_new _ _ ?_; (simp; done)) | refine bk_drew ?_ | refine bk_alloc ?_ _ | refine bk_set ?_ (by simp <;> omega) _))⟩
  case round =>
    obtain ⟨k, hk, rfl, rfl, hbw, B0⟩ := hrel
    have C0 := bk4 B0
    by_cases hlt : k < n
    · have hkl : k < l.length := by rw [hn'.out]; exact hlt
      have hx : l[k]? = some l[k] := List.getElem?_eq_getElem hkl
      obtain ⟨m, hme⟩ : ∃ m, l[k] = m := ⟨_, rfl⟩
      rw [hme] at hx
      obtain ⟨b, o, rfl, hbl, hc⟩ := (hat.below hbw) k m hx
      have hmv := hm'.out m (List.mem_of_getElem? hx)
      have hsn := Lib.hid (fold_snoc (netStep cask lo hi) l k m 0 hx)
      have hbd := net_take cask lo hi l k hm'.out (by rw [hn'.out]; exact hl)
      obtain ⟨S, hS⟩ : ∃ S, (l.take k).foldl (netStep cask lo hi) 0 = S := ⟨_, rfl⟩
      rw [hS] at hbd hsn ⊢
      obtain ⟨d, f, t, v⟩ := m
      have c0 := hc 0 _ rfl
      have c1 := hc 1 _ rfl
      have c2 := hc 2 _ rfl
      have c3 := hc 3 _ rfl
      dsimp only at c0 c1 c2 c3 hmv
      obtain ⟨hv1, hv2⟩ := hmv
      obtain ⟨hb1, hb2⟩ := hbd
      simp only [Nat.add_zero] at c0
      clear hx hme hS hc hat
      by_cases g1 : d ≤ lo
      all_goals try by_cases g2 : hi < d
      all_goals
        go_wp2
        all_goals
          go_roundw
          case rel => exact ⟨k + 1, by omega, by go_num, by
            rw [hsn.out]; congr 1; unfold netStep eqS; dsimp only
            repeat' split
            all_goals first | omega | simp_all, by go_grown, by (repeat (first | assumption | (refine bk_new _ _ ?_; (simp; done)) | refine bk_drew ?_ | refine bk_alloc ?_ _ | refine bk_set ?_ (by simp <;> omega) _))⟩
          case measure => simp [intOf]; omega
    · have hkk : k = n := by omega
      subst hkk
      go_wp2
      go_ret
      exact ⟨ret_int (by rw [List.take_of_length_le (by rw [hn'.out]; exact Nat.le_refl _)]; rfl), hbw⟩
end Go.Proofs
