import Derived.Test.YtjfdjjekonkgjaaTa
set_option linter.unusedSimpArgs false
set_option linter.unusedVariables false
namespace Go.Proofs
open Go.RowKit

def tabE (s : List UInt8) (bung : Int) (ss : List St) (step : Int) : Int := firstE [(checkC s bung ss).2, unl (within step 10 800) 2]
set_option maxRecDepth 100000 in
set_option maxHeartbeats 2000000 in
theorem tableOf_any (s : ByteArray) (bung : Int) (A : Option Addr) (ss : List St) (c : Nat) (step : Int) (w : World) (hs : s.size ≤ 9223372036854775807) (hcap : ss.length ≤ c) (hat : At 3 St.cs w A ss) :
    Calls Try.prog 40 #[.agg #[.string s, .int .i64 bung, .slice A ss.length c], .int .i64 step] w fun e w' => RetRows w (if tabE s.data.toList bung ss step = 0 then tabV bung ss step else []) (tabE s.data.toList bung ss step) e w' := by
  unfold tabE
  have hO := Lib.hid fun W hb => open_any s bung A ss c W hs (At.below hat hb)
  have hR : Hid ((checkC s.data.toList bung ss).2 = 0 → RightC bung ss) := fun h => rightC_of h
  have hat' := Lib.hid hat
  generalize (checkC s.data.toList bung ss).2 = E at *
  have hI := Lib.hid fun W => within_any step 10 800 W
  obtain ⟨D, hD⟩ : ∃ D, within step 10 800 = D := ⟨_, rfl⟩
  rw [hD] at hI ⊢
  by_cases hz : firstE [E, unl D 2] = 0
  case neg =>
    rw [if_neg hz]
    have z2 : (firstE [E, unl D 2] != 0) = true := by simpa using hz
    clear hz hR hD hat
    go_enter Try.func40, Try.ntmps40
    go_wp2_with (first | (go_at_call 69; refine (hO.out _ ?_).mono ?_; (· go_grown); rintro e w1 ⟨rfl, hb⟩; have hbw := via (by go_grown : Below w.heap.size w _) hb; have hsw := hbw.size) | (go_at_call 64; refine (hI.out _).mono ?_; rintro e w' ⟨rfl, rfl⟩) | (go_at_call 71; refine (unless_any _ _ _).mono ?_; rintro e w' ⟨rfl, rfl⟩) | (go_at_call 70; refine (first2n _ _ _ ?_).mono ?_; (· simp); rintro e w' ⟨rfl, rfl⟩))
    go_ret2
    exact ⟨⟨none, 0, rfl, fun k x hx => by simp at hx⟩, by go_grown⟩
  rw [if_pos hz]
  obtain ⟨hE, hU⟩ := firstE2_zero hz
  have hDt := unl_zero (by decide) hU
  subst hDt hE
  have hR1 := hR.out rfl
  obtain ⟨s1, s2⟩ := within_true hD
  have hb := hR1.b
  have hT := Lib.hid fun (d : Int) W (h1 : 0 ≤ d) (h2 : d ≤ 2 * bung) hb => to_any s bung d A ss c W hR1 h1 h2 hcap (At.below hat hb)
  have hF := Lib.hid fun W => full_any s bung A ss.length c W
  rw [wrap_bung hR1] at hF
  have z2 : (firstE [0, unl true 2] != 0) = false := rfl
  rw [show firstE [0, unl true 2] = 0 by rfl]
  obtain ⟨i0, hi, hz0, hz1, hz2⟩ := info_parts info143
  clear hz hR hR1 hat hD hU
  go_enter Try.func40, Try.ntmps40
  go_wp2_with (first | (go_at_call 69; refine (hO.out _ ?_).mono ?_; (· go_grown); rintro e w1 ⟨rfl, hb⟩; have hbw := via (by go_grown : Below w.heap.size w _) hb; have hsw := hbw.size) | (go_at_call 64; refine (hI.out _).mono ?_; rintro e w' ⟨rfl, rfl⟩) | (go_at_call 71; refine (unless_any _ _ _).mono ?_; rintro e w' ⟨rfl, rfl⟩) | (go_at_call 70; refine (first2n _ _ _ ?_).mono ?_; (· simp); rintro e w' ⟨rfl, rfl⟩))
  refine wp_world ?_
  intro W hW_W
  have hb_W : Below w.heap.size w W := by rw [hW_W]; go_grown
  obtain ⟨bC, hC⟩ : ∃ n, w1.heap.size = n := ⟨_, rfl⟩
  have D0 : W.heap[bC]? = some (.cells #[.string s, .int .i64 bung, .slice A ss.length c] 115 (0, 0)) := by rw [hW_W]; exact bk_alloc (bk_new _ _ hC.symm) _
  rw [hC]
  have hWs := hb_W.size
  clear hW_W hC hbw hb
  go_loopw [8, 9] (fun v i wr => ∃ (k : Nat) (d : Int) (acc : List (Int × Int × Int)), k ≤ 161 ∧ i = .int .i64 d ∧ 0 ≤ d ∧ d ≤ 2 * bung + step ∧ Hid (TabAt bung ss step k d acc) ∧ wr.ownsRow W.heap.size 143 3 v acc.length (acc.flatMap Rwc) ∧ Below W.heap.size W wr) (fun _ i _ => (2 * bung + step + 1 - intOf i).toNat)
  case atStart => exact ⟨0, 0, [], by omega, rfl, by omega, by omega, ⟨rfl, by omega, rfl⟩, World.ownsRow_nil _ _ _ _, Below.refl _ _⟩
  case round =>
    obtain ⟨k, d, acc, hk, rfl, hd0, hd1, htab, hown, hb1⟩ := hrel
    have hbw := via hb_W hb1
    have B0 := bk_keep hb1 D0
    have C0 := bk3 B0
    have hb1s := hb1.size
    have hal : acc.length = k := htab.out.1
    have hkd := htab.out.2.1
    by_cases hlt : d ≤ 2 * bung
    · have hC := Lib.hid fun W hw => hT.out d W hd0 hlt hw
      have hgo := Lib.hid (tab_go htab.out (by omega) hlt s1)
      generalize toV bung d ss = T at *
      obtain ⟨T1, T2⟩ := T
      dsimp only at *
      have hown' := Lib.hid hown
      clear hown
      go_wp2_with (first
        | (at_builtin; refine wpList_append_own _ rfl _ _ 78 rfl W.heap.size 143 i0 (.agg #[.int .i64 0, .int .i64 0, .int .i64 0]) 3 24 Try.underlying78 hi hz0 hz1 hz2 rfl (by decide) _ _ _ rfl (hown3.out.alloc _) ⟨w3.heap.size, 0, none⟩ 1 1 [.int .i64 d, .int .i64 T1, .int .i64 T2] rfl rfl ?c1 ?c2 ?c3 ?c4 ?c5 ?_)
        | (go_at_call 93; refine (hF.out _).mono ?_; rintro e w2 ⟨rfl, hb2⟩; have hbw := via hbw hb2; have hb12 := via hb1 hb2; have hown2 := Lib.hid (owns_below hown'.out hb2); have hs2 := hb2.size; replace B0 := bk_keep hb2 B0; replace C0 := bk3 B0)
        | (go_at_call 73; refine (hC.out _ hbw).mono ?_; rintro e w3 ⟨rfl, hb3⟩; have hbw := via hbw hb3; have hb13 := via hb12 hb3; have hown3 := Lib.hid (owns_below hown2.out hb3); have hs3 := hb3.size))
      case c1 => exact cell_three_new _ _ _ _ _
      case c2 => intro u hu; simp at hu; rcases hu with rfl | rfl | rfl <;> rfl
      case c3 => unfold maxLen; omega
      case c4 => omega
      case c5 => simp; omega
      intro v' w4 hown4 hg4 _
      have hlt4 := hown3.out.lt
      have hbel : Below W.heap.size W w4 := (hb13.alloc (by omega) _).grown hg4 (by simp; omega) (fun r e => (hlt4 r e).1)
      have hown5 : w4.ownsRow W.heap.size 143 3 v' (acc ++ [(d, T1, T2)]).length ((acc ++ [(d, T1, T2)]).flatMap Rwc) := by
        simpa [List.flatMap_append, Rwc, Nat.add_assoc, hal] using hown4
      have hown6 := Lib.hid hown5
      clear hown4 hown5 hg4 hlt4
      go_wp2
      go_roundw
      case rel => exact ⟨k + 1, d + step, acc ++ [(d, T1, T2)], by omega, rfl, by omega, by omega, hgo.out, hown6.out, hbel⟩
      case measure => simp [intOf]; omega
    · have hend := tab_end htab.out (by omega) hlt
      have hown' := Lib.hid hown
      have hend' := Lib.hid hend
      clear hown hend
      go_wp2_with (go_at_call 93; refine (hF.out _).mono ?_; rintro e w2 ⟨rfl, hb2⟩; have hbw := via hbw hb2; have hown2 := Lib.hid (owns_below hown'.out hb2))
      obtain ⟨A3, cap, rfl, hat3⟩ := at_of_owns (cs := Rwc) (sz := 3) (fun _ => rfl) hown2.out
      go_ret2
      exact ⟨⟨A3, cap, by rw [hend'.out, hal]; rfl, by rw [hend'.out]; exact hat3⟩, hbw⟩
end Go.Proofs
