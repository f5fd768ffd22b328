import Derived.Test.YtjfdjjekonkgjaaDv
set_option linter.unusedSimpArgs false
set_option linter.unusedVariables false
namespace Go.Proofs
open Go.RowKit

def CaskAt (s : ByteArray) (bung : Int) (ss : List St) (n : Nat) (V : Value) (x : World) : Prop := ∃ A' c', V = .agg #[.string s, .int .i64 bung, .slice A' n c'] ∧ At 3 St.cs x A' ss ∧ n ≤ c'
theorem caskAt_stable (s : ByteArray) (bung : Int) (ss : List St) (n : Nat) : ∀ V x x', CaskAt s bung ss n V x → Below x.heap.size x x' → CaskAt s bung ss n V x' := fun V x x' ⟨A', c', h1, h2, h3⟩ hb => ⟨A', c', h1, h2.below hb, h3⟩
theorem toV_bd {bung dip : Int} {ss : List St} (hR : RightC bung ss) (hd : 0 ≤ dip) (hd2 : dip ≤ 2 * bung) : 0 ≤ (toV bung dip ss).1 ∧ (toV bung dip ss).1 ≤ (toV bung dip ss).2 ∧ (toV bung dip ss).2 ≤ 2000000 := by
  have h := toV_ends (dip := dip) hR
  have hb := sumTo_bd bung dip ss hR hd hd2 (ss.length - 1) (by have := hR.n; omega)
  have hn := hR.n
  refine ⟨h.1, h.2, ?_⟩
  unfold toV
  dsimp only
  omega
/-- The contract of VolumeTo for a right cask and a right dip. -/
theorem volumeTo_right (s : ByteArray) (bung : Int) (A : Option Addr) (ss : List St) (c : Nat) (dip : Int) (w : World) (hs : s.size ≤ 9223372036854775807) (hcap : ss.length ≤ c) (hat : At 3 St.cs w A ss)
    (hR : RightC bung ss) (h0 : (checkC s.data.toList bung ss).2 = 0) (hd : 0 ≤ dip) (hd2 : dip ≤ 2 * bung) :
    Calls Try.prog 21 #[.agg #[.string s, .int .i64 bung, .slice A ss.length c], .int .i64 dip] w fun e w' =>
      e = .returned (.tuple #[.agg #[.int .i64 (toV bung dip ss).1, .int .i64 (toV bung dip ss).2], .int .i64 0]) ∧ Below w.heap.size w w' := by
  have h := volumeTo_any s bung A ss c dip w hs hcap hat
  have e : volToE s.data.toList bung ss dip = 0 := by
    unfold volToE
    rw [h0, wrap_bung hR, show within dip 0 (2 * bung) = true by unfold within; simp; omega]
    rfl
  unfold volToV at h
  rw [e, if_pos rfl] at h
  exact h

set_option maxRecDepth 100000 in
set_option maxHeartbeats 4000000 in
theorem gaugeDippedBack_walk (w : World) (s : ByteArray) (bung : Int) (A : Option Addr) (ss : List St) (c : Nat) (hs : s.size ≤ 9223372036854775807) (hb1 : -9223372036854775808 ≤ bung) (hb2 : bung ≤ 9223372036854775807)
    (hat : At 3 St.cs w A ss) (hl : ss.length ≤ c) (hn : A = none → c = 0) (dip : Int) (hd1 : -9223372036854775808 ≤ dip) (hd2 : dip ≤ 9223372036854775807) (by_ : Int) (hy1 : -9223372036854775808 ≤ by_) (hy2 : by_ ≤ 9223372036854775807) :
    Calls Try.prog 12 #[.agg #[.string s, .int .i64 bung, .slice A ss.length c], .int .i64 dip, .int .i64 by_] w fun e w' => e = .returned (.bool true) ∧ Below w.heap.size w w' := by
  obtain ⟨n, hn0⟩ : ∃ n, ss.length = n := ⟨_, rfl⟩
  have hS := Lib.hid fun W => small_any s bung A n c W
  cases hsm : smallB s.size n bung
  · rw [hsm] at hS
    rw [hn0]
    clear hsm hn0
    go_enter Try.func12, Try.ntmps12
    go_wp2_with (first | (go_at_call 15; refine (awake_any _).mono ?_; rintro e w1 ⟨rfl, hb⟩; have hbw := via (by go_grown : Below w.heap.size w _) hb; have B0 : w1.heap[w.heap.size]? = some (.cells #[.string s, .int .i64 bung, .slice A n c] 34 (0, 0)) := bk_keep hb (by (repeat (first | assumption | exact bk_new _ _ (by simp) | refine bk_drew ?_ | refine bk_alloc ?_ _ | refine bk_set ?_ (by simp <;> omega) _))); have C0 := bk3 B0) | (go_at_call 20; refine (hS.out _).mono ?_; rintro e w2 ⟨rfl, hb⟩; have hbw := via (by go_grown : Below w.heap.size w _) hb; replace B0 := bk_keep hb B0; replace C0 := bk3 B0))
    go_ret
    exact ⟨rfl, hbw⟩
  rw [hsm] at hS
  obtain ⟨g1, g2, g3⟩ := small_len hsm
  have hC := Lib.hid fun W (hw : Below w.heap.size w W) => copyCask_any s bung A ss c W (by omega) hn (At.below hat hw)
  have hE := Lib.hid fun W (hw : Below w.heap.size w W) => caskErr_any s bung A ss c W hs (At.below hat hw)
  have hErr : Hid ((checkC s.data.toList bung ss).2 = 0 → RightC bung ss) := fun h => rightC_of h
  have hat' := Lib.hid hat
  have hn0' := Lib.hid hn0
  rw [hn0] at hC hE hl ⊢
  clear hn hsm hat g1 g2 g3
  obtain ⟨E, hEE⟩ : ∃ E, (checkC s.data.toList bung ss).2 = E := ⟨_, rfl⟩
  rw [hEE] at hE hErr
  by_cases hz : E = 0
  case neg =>
    have z2 : (E != 0) = true := by simpa using hz
    clear hz hErr hEE hn0
    go_enter Try.func12, Try.ntmps12
    go_wp2_with (first | (go_at_call 15; refine (awake_any _).mono ?_; rintro e w1 ⟨rfl, hb⟩; have hbw := via (by go_grown : Below w.heap.size w _) hb; have B0 : w1.heap[w.heap.size]? = some (.cells #[.string s, .int .i64 bung, .slice A n c] 34 (0, 0)) := bk_keep hb (by (repeat (first | assumption | exact bk_new _ _ (by simp) | refine bk_drew ?_ | refine bk_alloc ?_ _ | refine bk_set ?_ (by simp <;> omega) _))); have C0 := bk3 B0) | (go_at_call 20; refine (hS.out _).mono ?_; rintro e w2 ⟨rfl, hb⟩; have hbw := via (by go_grown : Below w.heap.size w _) hb; replace B0 := bk_keep hb B0; replace C0 := bk3 B0) | (go_at_call 23; refine (hE.out _ hbw).mono ?_; rintro e w3 ⟨rfl, hb⟩; have hbw := via (by go_grown : Below w.heap.size w _) hb; replace B0 := bk_keep hb B0; replace C0 := bk3 B0))
    go_ret
    exact ⟨rfl, by go_grown⟩
  subst hz
  have hR := hErr.out rfl
  have hRb := hR.b
  have hD := Lib.hid fun W => refDipErr_any s bung dip A n c W (by omega) (by omega)
  cases hd : within dip 0 (2 * bung)
  · rw [hd] at hD
    have e1 : unl false 2 = 2 := rfl
    rw [e1] at hD
    clear e1 hd hErr hEE hn0 hR
    go_enter Try.func12, Try.ntmps12
    go_wp2_with (first | (go_at_call 15; refine (awake_any _).mono ?_; rintro e w1 ⟨rfl, hb⟩; have hbw := via (by go_grown : Below w.heap.size w _) hb; have B0 : w1.heap[w.heap.size]? = some (.cells #[.string s, .int .i64 bung, .slice A n c] 34 (0, 0)) := bk_keep hb (by (repeat (first | assumption | exact bk_new _ _ (by simp) | refine bk_drew ?_ | refine bk_alloc ?_ _ | refine bk_set ?_ (by simp <;> omega) _))); have C0 := bk3 B0) | (go_at_call 20; refine (hS.out _).mono ?_; rintro e w2 ⟨rfl, hb⟩; have hbw := via (by go_grown : Below w.heap.size w _) hb; replace B0 := bk_keep hb B0; replace C0 := bk3 B0) | (go_at_call 23; refine (hE.out _ hbw).mono ?_; rintro e w3 ⟨rfl, hb⟩; have hbw := via (by go_grown : Below w.heap.size w _) hb; replace B0 := bk_keep hb B0; replace C0 := bk3 B0) | (go_at_call 24; refine (hD.out _).mono ?_; rintro e w3 ⟨rfl, hb⟩; have hbw := via (by go_grown : Below w.heap.size w _) hb; replace B0 := bk_keep hb B0; replace C0 := bk3 B0))
    go_ret
    exact ⟨rfl, by go_grown⟩
  obtain ⟨d1, d2⟩ := within_true hd
  rw [hd] at hD
  have e1 : unl true 2 = 0 := rfl
  rw [e1] at hD
  have hV := Lib.hid fun W A' c' d (h1 : 0 ≤ d) (h2 : d ≤ 2 * bung) (hc : ss.length ≤ c') (ha : At 3 St.cs W A' ss) => volumeTo_right s bung A' ss c' d W hs hc ha hR hEE h1 h2
  have hP := Lib.hid fun vol W A' c' (hc : ss.length ≤ c') (ha : At 3 St.cs W A' ss) => dipOf_any s bung A' ss c' vol W hs hc ha
  simp only [hn0] at hV hP
  unfold dipOfV at hP
  rw [hEE] at hP
  simp only [if_true] at hP
  obtain ⟨v1, v2, v3⟩ := toV_bd hR d1 d2
  have hV0 := Lib.hid fun W A' c' hc ha => hV.out W A' c' dip d1 d2 hc ha
  have hpr := Lib.hid fun vol h1 h2 h3 => dips_of (vol := vol) hR d1 d2 h1 h2 h3
  clear e1 hd hErr hEE hn0 hn0' hat'
  obtain ⟨T, hT⟩ : ∃ T, toV bung dip ss = T := ⟨_, rfl⟩
  rw [hT] at hV0 v1 v2 v3 hpr
  clear hT
  obtain ⟨V1, V2⟩ := T
  dsimp only at *
  have hM := Lib.hid fun W => mod_any by_ (V2 - V1 + 1) W (by omega) (by omega)
  obtain ⟨m1, m2⟩ := modV_bd by_ (V2 - V1 + 1) (by omega)
  generalize modV by_ (V2 - V1 + 1) = M at *
  have hr1 : IntKind.i64.wrap (V2 - V1) = V2 - V1 := IntWalk.i64_in _ (by omega)
  have hr2 : IntKind.i64.wrap (V2 - V1 + 1) = V2 - V1 + 1 := IntWalk.i64_in _ (by omega)
  obtain ⟨vol, hvol⟩ : ∃ v, V1 + M = v := ⟨_, rfl⟩
  have hr3 : IntKind.i64.wrap (V1 + M) = vol := by rw [← hvol]; exact IntWalk.i64_in _ (by omega)
  have q1 : V1 ≤ vol := by omega
  have q2 : vol ≤ V2 := by omega
  have hP1 := Lib.hid fun W A' c' hc ha => hP.out vol W A' c' hc ha
  clear hP
  by_cases h100 : vol ≤ 100000
  case neg =>
    have e : dipV bung ss vol = ((0, 0), 2) := by
      unfold dipV
      rw [if_neg]
      unfold within
      simp
      omega
    rw [e] at hP1
    clear e hR
    dsimp only at hP1
    have i100 : 100000 < vol := by omega
    go_enter Try.func12, Try.ntmps12
    go_wp2_with (first | (go_at_call 15; refine (awake_any _).mono ?_; rintro e w1 ⟨rfl, hb⟩; have hbw := via (by go_grown : Below w.heap.size w _) hb; have B0 : w1.heap[w.heap.size]? = some (.cells #[.string s, .int .i64 bung, .slice A n c] 34 (0, 0)) := bk_keep hb (by (repeat (first | assumption | exact bk_new _ _ (by simp) | refine bk_drew ?_ | refine bk_alloc ?_ _ | refine bk_set ?_ (by simp <;> omega) _))); have C0 := bk3 B0) | (go_at_call 20; refine (hS.out _).mono ?_; rintro e w2 ⟨rfl, hb⟩; have hbw := via (by go_grown : Below w.heap.size w _) hb; replace B0 := bk_keep hb B0; replace C0 := bk3 B0) | (go_at_call 23; refine (hE.out _ hbw).mono ?_; rintro e w3 ⟨rfl, hb⟩; have hbw := via (by go_grown : Below w.heap.size w _) hb; replace B0 := bk_keep hb B0; replace C0 := bk3 B0) | (go_at_call 24; refine (hD.out _).mono ?_; rintro e w3 ⟨rfl, hb⟩; have hbw := via (by go_grown : Below w.heap.size w _) hb; replace B0 := bk_keep hb B0; replace C0 := bk3 B0) | (go_at_call 22; refine (hC.out _ ?_).mono ?_; (· go_grown); rintro e w4 ⟨⟨A3, c3, rfl, hat3, hc3⟩, hb⟩; have hbw := via (by go_grown : Below w.heap.size w _) hb; replace B0 := bk_keep hb B0; replace C0 := bk3 B0) | (go_at_call 21; refine (hV0.out _ _ _ hc3 hat3).mono ?_; rintro e w5 ⟨rfl, hb⟩; have hbw := via (by go_grown : Below w.heap.size w _) hb; replace B0 := bk_keep hb B0; replace C0 := bk3 B0))
    refine region_all w (by kernel_rfl) (by kernel_rfl) (by go_grown) ?_
    intro hgc hbx
    repeat (go_big_quiet_step ((go_at_call 47; exact Grew.call_same (hM.out _))))
    refine wpQuiet_nil ?_
    intro w6 hb6 hbw hsz6
    clear hgc hbx
    replace B0 := bk_keep hb6 (bk_alloc B0 _)
    replace C0 := bk3 B0
    clear hr1 hr2 hr3
    go_wp2_with (first | (go_at_call 22; refine (hC.out _ ?_).mono ?_; (· go_grown); rintro e w4 ⟨⟨A3, c3, rfl, hat3, hc3⟩, hb⟩; have hbw := via (by go_grown : Below w.heap.size w _) hb; replace B0 := bk_keep hb B0; replace C0 := bk3 B0) | (go_at_call 45; refine (hP1.out _ _ _ hc3 hat3).mono ?_; rintro e w7 ⟨rfl, hb⟩; have hbw := via (by go_grown : Below w.heap.size w _) hb; replace B0 := bk_keep hb B0; replace C0 := bk3 B0))
    go_ret
    exact ⟨rfl, by go_grown⟩
  obtain ⟨e, l0, l1, l2, l3, hAt⟩ := hpr.out vol q1 q2 h100
  rw [e] at hP1
  clear e hpr
  generalize dLo bung ss vol = L at *
  generalize dHi bung ss vol = H at *
  dsimp only at hP1
  have hA := Lib.hid hAt
  have hW := Lib.hid fun W => refWithin_any dip L H W
  rw [show within dip L H = true by unfold within; simp; omega] at hW
  have hbdd := Lib.hid fun d h1 h2 => toV_bd (dip := d) hR h1 h2
  clear hAt hR
  go_enter Try.func12, Try.ntmps12
  go_wp2_with (first | (go_at_call 15; refine (awake_any _).mono ?_; rintro e w1 ⟨rfl, hb⟩; have hbw := via (by go_grown : Below w.heap.size w _) hb; have B0 : w1.heap[w.heap.size]? = some (.cells #[.string s, .int .i64 bung, .slice A n c] 34 (0, 0)) := bk_keep hb (by (repeat (first | assumption | exact bk_new _ _ (by simp) | refine bk_drew ?_ | refine bk_alloc ?_ _ | refine bk_set ?_ (by simp <;> omega) _))); have C0 := bk3 B0) | (go_at_call 20; refine (hS.out _).mono ?_; rintro e w2 ⟨rfl, hb⟩; have hbw := via (by go_grown : Below w.heap.size w _) hb; replace B0 := bk_keep hb B0; replace C0 := bk3 B0) | (go_at_call 23; refine (hE.out _ hbw).mono ?_; rintro e w3 ⟨rfl, hb⟩; have hbw := via (by go_grown : Below w.heap.size w _) hb; replace B0 := bk_keep hb B0; replace C0 := bk3 B0) | (go_at_call 24; refine (hD.out _).mono ?_; rintro e w3 ⟨rfl, hb⟩; have hbw := via (by go_grown : Below w.heap.size w _) hb; replace B0 := bk_keep hb B0; replace C0 := bk3 B0) | (go_at_call 22; refine (hC.out _ ?_).mono ?_; (· go_grown); rintro e w4 ⟨⟨A3, c3, rfl, hat3, hc3⟩, hb⟩; have hbw := via (by go_grown : Below w.heap.size w _) hb; replace B0 := bk_keep hb B0; replace C0 := bk3 B0) | (go_at_call 21; refine (hV0.out _ _ _ hc3 hat3).mono ?_; rintro e w5 ⟨rfl, hb⟩; have hbw := via (by go_grown : Below w.heap.size w _) hb; replace B0 := bk_keep hb B0; replace C0 := bk3 B0))
  refine region_all w (by kernel_rfl) (by kernel_rfl) (by go_grown) ?_
  intro hgc hbx
  repeat (go_big_quiet_step ((go_at_call 47; exact Grew.call_same (hM.out _))))
  refine wpQuiet_nil ?_
  intro w6 hb6 hbw hsz6
  clear hgc hbx
  replace B0 := bk_keep hb6 (bk_alloc B0 _)
  replace C0 := bk3 B0
  clear hr1 hr2 hr3
  go_wp2_with (first | (go_at_call 22; refine (hC.out _ ?_).mono ?_; (· go_grown); rintro e w4 ⟨⟨A3, c3, rfl, hat3, hc3⟩, hb⟩; have hbw := via (by go_grown : Below w.heap.size w _) hb; replace B0 := bk_keep hb B0; replace C0 := bk3 B0) | (go_at_call 45; refine (hP1.out _ _ _ hc3 hat3).mono ?_; rintro e w7 ⟨rfl, hb⟩; have hbw := via (by go_grown : Below w.heap.size w _) hb; replace B0 := bk_keep hb B0; replace C0 := bk3 B0) | (go_at_call 19; refine (hW.out _).mono ?_; rintro e w8 ⟨rfl, rfl⟩))
  go_loopw [13] (fun i wr => ∃ k : Nat, k ≤ 4 ∧ i = .int .i64 k ∧ Below w.heap.size w wr ∧ wr.heap[w.heap.size]? = some (.cells #[.string s, .int .i64 bung, .slice A n c] 34 (0, 0)) ∧ wr.heap[w7.heap.size + 1]? = some (.cells #[.int .i64 (L - 1), .int .i64 L, .int .i64 H, .int .i64 (H + 1)] 91 (0, 0))) (fun i _ => 4 - (intOf i).toNat)
  case atStart => exact ⟨0, by omega, rfl, by go_grown, by (repeat (first | assumption | exact bk_new _ _ (by simp) | refine bk_drew ?_ | refine bk_alloc ?_ _ | refine bk_set ?_ (by simp <;> omega) _)), by (repeat (first | assumption | exact bk_new _ _ (by simp) | refine bk_drew ?_ | refine bk_alloc ?_ _ | refine bk_set ?_ (by simp <;> omega) _))⟩
  case round =>
    obtain ⟨k, hk, rfl, hbw, B0, B3⟩ := hrel
    have C0 := bk3 B0
    have hw2 : IntKind.i64.wrap (2 * bung) = 2 * bung := IntWalk.i64_in _ (by omega)
    by_cases hlt : k < 4
    · obtain ⟨at_, b1, b2, hcell, hk1, hk2, hat1, hat2, hexp⟩ : ∃ (at_ : Int) (b1 b2 : Bool), wr.cell? ⟨w7.heap.size + 1, k, none⟩ = some (.int .i64 at_) ∧ ((k : Int) == 1) = b1 ∧ ((k : Int) == 2) = b2 ∧ -1 ≤ at_ ∧ at_ ≤ 2 * bung + 1 ∧
          (within at_ 0 (2 * bung) = true → within vol (toV bung at_ ss).1 (toV bung at_ ss).2 = (b1 || b2)) := by
        have hc := fun j => bk_cell B3 j
        have hin : ∀ a : Int, within a 0 (2 * bung) = true → within vol (toV bung a ss).1 (toV bung a ss).2 = (decide (L ≤ a) && decide (a ≤ H)) := fun a h => hA.out a (within_true h).1 (within_true h).2
        have hcase : k = 0 ∨ k = 1 ∨ k = 2 ∨ k = 3 := by omega
        rcases hcase with rfl | rfl | rfl | rfl
        · exact ⟨L - 1, false, false, hc 0, rfl, rfl, by omega, by omega, fun h => by rw [hin _ h, decide_eq_false (by omega)]; rfl⟩
        · exact ⟨L, true, false, hc 1, rfl, rfl, by omega, by omega, fun h => by rw [hin _ h, decide_eq_true (by omega), decide_eq_true (by omega)]; rfl⟩
        · exact ⟨H, false, true, hc 2, rfl, rfl, by omega, by omega, fun h => by rw [hin _ h, decide_eq_true (by omega), decide_eq_true (by omega)]; rfl⟩
        · exact ⟨H + 1, false, false, hc 3, rfl, rfl, by omega, by omega, fun h => by rw [hin _ h, decide_eq_true (by omega : L ≤ H + 1), decide_eq_false (by omega : ¬ H + 1 ≤ H)]; rfl⟩
      have hzz := bk_size B3
      have hkI : (k : Int) < 4 := by omega
      have hkJ : (0 : Int) ≤ (k : Int) := by omega
      have hX := Lib.hid fun W => refWithin_any at_ 0 (2 * bung) W
      cases hin : within at_ 0 (2 * bung)
      · rw [hin] at hX
        clear hexp hin
        go_wp2_with fail
        refine region_all w (by kernel_rfl) (by kernel_rfl) (by go_grown) ?_
        intro hgc hbx
        repeat (go_big_quiet_step ((go_at_call 19; exact Grew.call_same (hX.out _))))
        refine wpQuiet_nil ?_
        intro w9 hb9 hbw hsz9
        clear hgc hbx
        go_wp2
        go_roundw
        case rel => exact ⟨k + 1, by omega, by go_num, by go_grown, bk_keep hb9 B0, bk_keep hb9 B3⟩
        case measure => simp [intOf]; omega
      · rw [hin] at hX
        have he := hexp hin
        obtain ⟨i1, i2⟩ := within_true hin
        have hVk := Lib.hid fun W A' c' hc ha => hV.out W A' c' at_ i1 i2 hc ha
        clear hexp hin
        obtain ⟨x1, x2, x3⟩ := hbdd.out at_ i1 i2
        generalize toV bung at_ ss = X at *
        obtain ⟨X1, X2⟩ := X
        dsimp only at *
        have hY := Lib.hid fun W => refWithin_any vol X1 X2 W
        rw [he] at hY
        clear he
        go_wp2_with fail
        refine region_all w (by kernel_rfl) (by kernel_rfl) (by go_grown) ?_
        intro hgc hbx
        repeat (go_big_quiet_step ((go_at_call 19; exact Grew.call_same (hX.out _))))
        refine wpQuiet_nil ?_
        intro w9 hb9 hbw hsz9
        clear hgc hbx
        have hc9 := (gcell hb9 (w7.heap.size + 1) k hzz).trans hcell
        replace B0 := bk_keep hb9 B0
        replace B3 := bk_keep hb9 B3
        replace C0 := bk3 B0
        clear hcell hb9
        have hz9 := bk_size B3
        go_wp2_with fail
        apply region_copy w 1 5 9 10 124 128 14 (CaskAt s bung ss n) ((.tuple #[.agg #[.int .i64 X1, .int .i64 X2], .int .i64 0])) (.cells #[.int .i64 0, .int .i64 0] 24 (0, 0)) (.cells #[.int .i64 X1, .int .i64 X2] 24 (0, 0))
        case hm => kernel_rfl
        case hB => kernel_rfl
        case hB' => kernel_rfl
        case hS => kernel_rfl
        case hN => kernel_rfl
        case hw => exact hbw
        case hst => exact (caskAt_stable s bung ss n)
        case hal => intro o ho; simp at ho; subst ho; intro a x; kernel_rfl
        case hq =>
          intro u hu hgc hbx hbX
          have D0 := bk_keep hu B0
          have E0 := bk3 D0
          have hcu := (gcell hu (w7.heap.size + 1) k hz9).trans hc9
          have hzu : w7.heap.size + 1 < u.heap.size := by have := hu.size; omega
          simp only [dummyC, struck, yieldsC, Nat.reduceAdd, Nat.reduceBEq, Nat.zero_add, Bool.or_false, Bool.or_true, Bool.false_or, Bool.true_or, Bool.false_eq_true, if_true, if_false, Bool.or_self]
          repeat (go_big_quiet_step (fail))
          exact wpQuiet_nil rfl
        case hcp =>
          intro o ho x hx hw
          simp at ho
          subst ho
          exact ⟨22, #[.agg #[.string s, .int .i64 bung, .slice A n c]], by kernel_rfl, (hC.out x hw).mono fun e x' ⟨⟨A', c', he, ha, hc⟩, hb⟩ => ⟨_, he, ⟨A', c', rfl, ha, hc⟩, hb⟩⟩
        case hcl =>
          intro o ho V x hx hw hp
          simp at ho
          subst ho
          obtain ⟨A', c', rfl, ha, hc⟩ := hp
          exact ⟨21, #[.agg #[.string s, .int .i64 bung, .slice A' n c'], .int .i64 at_], by kernel_rfl, hVk.out x A' c' hc ha⟩
        case hsto =>
          intro o ho B x hx hB hz
          simp at ho
          subst ho
          have Cz := bk2 hz
          refine ⟨(x.setCell ⟨B, 0, none⟩ (.int .i64 (X1))).setCell ⟨B, 1, none⟩ (.int .i64 (X2)), by simp [execOp, go_sem, Act.put, Cz], below_in (below_in hx hB _) hB _, bk_here (bk_here hz _ rfl) _ rfl⟩
        case h =>
          intro B V x hB hx hw hz
          simp only [Act.put, List.setIfInBounds_toArray, List.set_cons_succ, List.set_cons_zero]
          have CX := bk2 hz
          replace B0 := bk_keep hx B0
          replace B3 := bk_keep hx B3
          clear C0 hc9
          have C0 := bk3 B0
          cases b1 <;> cases b2
          all_goals
            go_wp2_with (go_at_call 19; refine (hY.out _).mono ?_; rintro e w10 ⟨rfl, rfl⟩)
            go_roundw
            case rel => exact ⟨k + 1, by omega, by go_num, by go_grown, B0, B3⟩
            case measure => simp [intOf]; omega
    · go_wp2
      go_ret
      exact ⟨rfl, hbw⟩
end Go.Proofs
