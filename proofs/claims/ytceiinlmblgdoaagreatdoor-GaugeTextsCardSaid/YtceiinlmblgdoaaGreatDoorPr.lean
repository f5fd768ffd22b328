import Derived.Test.YtceiinlmblgdoaaGreatDoorPa
import Derived.Test.YtceiinlmblgdoaaGreatDoorNm
import Derived.Test.YtceiinlmblgdoaaGreatDoorRb
import Derived.Test.YtceiinlmblgdoaaGreatDoorNt
set_option linter.unusedSimpArgs false
set_option linter.unusedVariables false
namespace Go.Proofs
open Go.RowKit

theorem num_any (b : List UInt8) (W : World) (h : b.length ≤ 1000) : Calls Tryz.prog 23 #[.string (bs b), .int .i64 9] W fun e w' => e = .returned (.tuple #[.int .i64 (nv b), .bool (parseN b).isSome]) ∧ W = w' := by
  refine (number_any (bs b) W (by rw [bs_size]; omega)).mono ?_
  rintro e w' ⟨rfl, rfl⟩
  refine ⟨?_, rfl⟩
  rw [bs_data]
  unfold numV nv
  cases parseN b <;> rfl
set_option maxRecDepth 100000 in
set_option maxHeartbeats 4000000 in
theorem refParse_any (s : ByteArray) (w : World) (hs : s.size ≤ 1000) :
    Calls Tryz.prog 7 #[.string s] w fun e w' => e = .returned (gval (parseG s.data.toList)) ∧ Below w.heap.size w w' := by
  obtain ⟨l, hl⟩ : ∃ l, s.data.toList = l := ⟨_, rfl⟩
  have hSp := Lib.hid fun W => cut_any s W hs
  rw [hl] at hSp ⊢
  have hll : l.length ≤ 1000 := by rw [← hl]; simpa using hs
  clear hl
  have hcl := Lib.hid (cut_len l)
  by_cases h4 : (cutL l).length = 4
  · obtain ⟨a, b0, b1, b2, hP⟩ : ∃ a b0 b1 b2, cutL l = [a, b0, b1, b2] := by
      match h : cutL l, h4 with
      | [a, b0, b1, b2], _ => exact ⟨a, b0, b1, b2, rfl⟩
    have hG := parseG_four hP
    rw [hP] at hSp hcl
    have l0 : b0.length ≤ 1000 := by have := hcl.out b0 (by simp); omega
    have l1 : b1.length ≤ 1000 := by have := hcl.out b1 (by simp); omega
    have l2 : b2.length ≤ 1000 := by have := hcl.out b2 (by simp); omega
    clear hP h4
    by_cases ha : a = []
    · rw [if_pos ha] at hG
      rw [hG]
      have hae : (bs a).toList.isEmpty = true := by rw [ha, ByteArray.toList_eq, bs_data]; rfl
      clear hG ha
      go_enter Tryz.func7, Tryz.ntmps7
      go_wp2_with (go_at_call 22; refine (hSp.out _).mono ?_; rintro e w1 ⟨⟨A, c, rfl, hat⟩, hb⟩; obtain ⟨bb, oo, rfl, hbb, p0, p1, p2, p3⟩ := pieces4 hat; have hbw := via (by go_grown : Below w.heap.size w _) hb; have B2 := bk_keep hb (bk_new _ _ rfl); have C2 := bk4 B2)
      refine bodyPost_ret (v := gval (gx0, 7)) ?_ rfl ⟨rfl, ?_⟩
      · simp [results, Tryz.results7, go_sem, C2, gval, gx0]
        rfl
      · go_grown
    · rw [if_neg ha] at hG
      have hae := bs_ne ha
      have hG' := Lib.hid hG
      clear hG ha
      go_enter Tryz.func7, Tryz.ntmps7
      go_wp2_with (go_at_call 22; refine (hSp.out _).mono ?_; rintro e w1 ⟨⟨A, c, rfl, hat⟩, hb⟩; obtain ⟨bb, oo, rfl, hbb, p0, p1, p2, p3⟩ := pieces4 hat; have hbw := via (by go_grown : Below w.heap.size w _) hb; have B2 := bk_keep hb (bk_new _ _ rfl); have C2 := bk4 B2)
      refine wp_world ?_
      intro W hW_W
      have hb_W : Below w.heap.size w W := by rw [hW_W]; go_grown
      obtain ⟨X, hX⟩ : ∃ X, w1.heap.size = X := ⟨_, rfl⟩
      have D2 : W.heap[w.heap.size]? = some (.cells #[.string ⟨#[]⟩, .int .i64 0, .int .i64 0, .int .i64 0] 25 (0, 0)) := by rw [hW_W]; exact bk_alloc B2 _
      have DX0 : W.heap[X]? = some (.cells #[.int .i64 0, .int .i64 0, .int .i64 0] 64 (0, 0)) := by rw [hW_W]; exact bk_new _ _ hX.symm
      have hb1 : Below w1.heap.size w1 W := by rw [hW_W]; exact new_below _ _
      have hRX : w.heap.size < X := by rw [← hX]; exact bk_size B2
      have hPP : Hid (w1.cell? ⟨bb, oo, none⟩ = some (.string (bs a)) ∧ w1.cell? ⟨bb, oo + 1, none⟩ = some (.string (bs b0)) ∧ w1.cell? ⟨bb, oo + 2, none⟩ = some (.string (bs b1)) ∧ w1.cell? ⟨bb, oo + 3, none⟩ = some (.string (bs b2))) := ⟨p0, p1, p2, p3⟩
      rw [hX] at hb1 hbb ⊢
      clear hW_W B2 C2 hb hbw p0 p1 p2 p3 hat
      go_loopw [6] (fun i wr => ∃ k : Nat, k ≤ 3 ∧ i = .int .i64 (k : Int) ∧ Below w.heap.size w wr ∧ Below X w1 wr ∧ wr.heap[w.heap.size]? = some (.cells #[.string ⟨#[]⟩, .int .i64 0, .int .i64 0, .int .i64 0] 25 (0, 0)) ∧
        wr.heap[X]? = some (.cells #[.int .i64 (if 0 < k then nv b0 else 0), .int .i64 (if 1 < k then nv b1 else 0), .int .i64 (if 2 < k then nv b2 else 0)] 64 (0, 0)) ∧ Hid ((0 < k → parseN b0 ≠ none) ∧ (1 < k → parseN b1 ≠ none) ∧ (2 < k → parseN b2 ≠ none))) (fun i _ => 3 - (intOf i).toNat)
      case atStart => exact ⟨0, by omega, rfl, hb_W, hb1, D2, DX0, by unfold Hid; simp⟩
      case round =>
        clear hb_W D2 DX0 hb1
        obtain ⟨k, hk, rfl, hbw, hb1, D2, DX0, hok⟩ := hrel
        have C2 := bk4 D2
        have qa := (hb1.cell (p := ⟨bb, oo, none⟩) hbb).trans hPP.out.1
        have q0 := (hb1.cell (p := ⟨bb, oo + 1, none⟩) hbb).trans hPP.out.2.1
        have q1 := (hb1.cell (p := ⟨bb, oo + 2, none⟩) hbb).trans hPP.out.2.2.1
        have q2 := (hb1.cell (p := ⟨bb, oo + 3, none⟩) hbb).trans hPP.out.2.2.2
        have hXw : X < wr.heap.size := bk_size DX0
        have hbbw : bb < wr.heap.size := by omega
        rcases (by omega : k = 0 ∨ k = 1 ∨ k = 2 ∨ k = 3) with rfl | rfl | rfl | rfl
        · have DX : wr.heap[X]? = some (.cells #[.int .i64 (0), .int .i64 (0), .int .i64 (0)] 64 (0, 0)) := DX0
          clear DX0
          have CX := bk3 DX
          have hN := Lib.hid fun W => num_any b0 W l0
          cases hp : parseN b0 with
          | none =>
            have hbad : Hid (parseG l = (gx0, 7)) := by unfold Hid; rw [hG'.out]; exact parse_bad3 (.inl hp)
            rw [hp] at hN
            simp only [Option.isSome_none] at hN
            clear hp
            go_wp2_with (go_at_call 23; refine (hN.out _).mono ?_; rintro e w' ⟨rfl, rfl⟩)
            refine bodyPost_ret (v := gval (gx0, 7)) ?_ rfl ⟨by rw [hbad.out], ?_⟩
            · simp [results, Tryz.results7, go_sem, C2, gval, gx0]
              rfl
            · go_grown
          | some n =>
            have hnv : Hid (nv b0 = n) := by unfold Hid nv; rw [hp]; rfl
            have hpn' : Hid (parseN b0 ≠ none) := by unfold Hid; rw [hp]; simp
            rw [hp, hnv.out] at hN
            simp only [Option.isSome_some] at hN
            clear hp
            go_wp2_with (go_at_call 23; refine (hN.out _).mono ?_; rintro e w' ⟨rfl, rfl⟩)
            go_roundw
            case rel => exact ⟨0 + 1, by omega, by go_num, hbw.setCell (by dsimp only; omega) _, hb1.setCell (Nat.le_refl _) _, bk_set D2 (by dsimp only; omega) _, bk_here DX _ (by rw [← hnv.out]; rfl), by have := hok.out; have := hpn'.out; unfold Hid; refine ⟨?_, ?_, ?_⟩ <;> intro _ <;> first | assumption | (simp_all; done) | omega⟩
            case measure => simp [intOf]
        · have DX : wr.heap[X]? = some (.cells #[.int .i64 (nv b0), .int .i64 (0), .int .i64 (0)] 64 (0, 0)) := DX0
          clear DX0
          have CX := bk3 DX
          have hN := Lib.hid fun W => num_any b1 W l1
          cases hp : parseN b1 with
          | none =>
            have hbad : Hid (parseG l = (gx0, 7)) := by unfold Hid; rw [hG'.out]; exact parse_bad3 (.inr (.inl hp))
            rw [hp] at hN
            simp only [Option.isSome_none] at hN
            clear hp
            go_wp2_with (go_at_call 23; refine (hN.out _).mono ?_; rintro e w' ⟨rfl, rfl⟩)
            refine bodyPost_ret (v := gval (gx0, 7)) ?_ rfl ⟨by rw [hbad.out], ?_⟩
            · simp [results, Tryz.results7, go_sem, C2, gval, gx0]
              rfl
            · go_grown
          | some n =>
            have hnv : Hid (nv b1 = n) := by unfold Hid nv; rw [hp]; rfl
            have hpn' : Hid (parseN b1 ≠ none) := by unfold Hid; rw [hp]; simp
            rw [hp, hnv.out] at hN
            simp only [Option.isSome_some] at hN
            clear hp
            go_wp2_with (go_at_call 23; refine (hN.out _).mono ?_; rintro e w' ⟨rfl, rfl⟩)
            go_roundw
            case rel => exact ⟨1 + 1, by omega, by go_num, hbw.setCell (by dsimp only; omega) _, hb1.setCell (Nat.le_refl _) _, bk_set D2 (by dsimp only; omega) _, bk_here DX _ (by rw [← hnv.out]; rfl), by have := hok.out; have := hpn'.out; unfold Hid; refine ⟨?_, ?_, ?_⟩ <;> intro _ <;> first | assumption | (simp_all; done) | omega⟩
            case measure => simp [intOf]
        · have DX : wr.heap[X]? = some (.cells #[.int .i64 (nv b0), .int .i64 (nv b1), .int .i64 (0)] 64 (0, 0)) := DX0
          clear DX0
          have CX := bk3 DX
          have hN := Lib.hid fun W => num_any b2 W l2
          cases hp : parseN b2 with
          | none =>
            have hbad : Hid (parseG l = (gx0, 7)) := by unfold Hid; rw [hG'.out]; exact parse_bad3 (.inr (.inr hp))
            rw [hp] at hN
            simp only [Option.isSome_none] at hN
            clear hp
            go_wp2_with (go_at_call 23; refine (hN.out _).mono ?_; rintro e w' ⟨rfl, rfl⟩)
            refine bodyPost_ret (v := gval (gx0, 7)) ?_ rfl ⟨by rw [hbad.out], ?_⟩
            · simp [results, Tryz.results7, go_sem, C2, gval, gx0]
              rfl
            · go_grown
          | some n =>
            have hnv : Hid (nv b2 = n) := by unfold Hid nv; rw [hp]; rfl
            have hpn' : Hid (parseN b2 ≠ none) := by unfold Hid; rw [hp]; simp
            rw [hp, hnv.out] at hN
            simp only [Option.isSome_some] at hN
            clear hp
            go_wp2_with (go_at_call 23; refine (hN.out _).mono ?_; rintro e w' ⟨rfl, rfl⟩)
            go_roundw
            case rel => exact ⟨2 + 1, by omega, by go_num, hbw.setCell (by dsimp only; omega) _, hb1.setCell (Nat.le_refl _) _, bk_set D2 (by dsimp only; omega) _, bk_here DX _ (by rw [← hnv.out]; rfl), by have := hok.out; have := hpn'.out; unfold Hid; refine ⟨?_, ?_, ?_⟩ <;> intro _ <;> first | assumption | (simp_all; done) | omega⟩
            case measure => simp [intOf]
        · have DX : wr.heap[X]? = some (.cells #[.int .i64 (nv b0), .int .i64 (nv b1), .int .i64 (nv b2)] 64 (0, 0)) := DX0
          clear DX0
          have CX := bk3 DX
          have hGG := hG'.out
          rw [parse_good3 (hok.out.1 (by omega)) (hok.out.2.1 (by omega)) (hok.out.2.2 (by omega))] at hGG
          have hE := Lib.hid fun W => refReadingErr_any (bs a) (nv b0) (nv b1) (nv b2) W (by rw [bs_size]; have := hcl.out a (by simp); omega)
          rw [bs_data] at hE
          generalize nv b0 = dx at *
          generalize nv b1 = dl at *
          generalize nv b2 = dh at *
          obtain ⟨E, hEe⟩ : ∃ E, gaugingE a dx dl dh = E := ⟨_, rfl⟩
          rw [hEe] at hE hGG
          go_wp2_with fail
          apply region_store w 11 12 9 (.cells #[.string ⟨#[]⟩, .int .i64 0, .int .i64 0, .int .i64 0] 25 (0, 0)) (.cells #[.string (bs a), .int .i64 dx, .int .i64 dl, .int .i64 dh] 25 (0, 0))
          case hm => kernel_rfl
          case hB => kernel_rfl
          case hB' => kernel_rfl
          case hS => kernel_rfl
          case hN => kernel_rfl
          case hw => exact hbw
          case hal => intro o ho; simp at ho; subst ho; intro a x; kernel_rfl
          case hq =>
            intro u hu hgc hbx hbX
            have E3 := bk3 (bk_keep hu DX)
            have ra := cell_below qa hu
            have rb : bb < u.heap.size := Nat.lt_of_lt_of_le hbbw hu.size
            have rx : X < u.heap.size := Nat.lt_of_lt_of_le hXw hu.size
            simp only [dummyAt, struck, Nat.reduceAdd, Nat.reduceBEq, Nat.zero_add, Bool.or_false, Bool.or_true, Bool.false_or, Bool.true_or, Bool.false_eq_true, if_true, if_false, Bool.or_self]
            repeat (go_big_quiet_step (fail))
            exact wpQuiet_nil rfl
          case hst =>
            intro o ho B x hx hB hz
            simp at ho
            subst ho
            have Cz := bk4 hz
            refine ⟨(((x.setCell ⟨B, 0, none⟩ (.string (bs a))).setCell ⟨B, 1, none⟩ (.int .i64 dx)).setCell ⟨B, 2, none⟩ (.int .i64 dl)).setCell ⟨B, 3, none⟩ (.int .i64 dh), by simp [execOp, go_sem, Act.put, Cz], below_in (below_in (below_in (below_in hx hB _) hB _) hB _) hB _, bk_here (bk_here (bk_here (bk_here hz _ rfl) _ rfl) _ rfl) _ rfl⟩
          case h =>
            intro B x' hB hx hw hz
            simp only [Act.put, List.setIfInBounds_toArray, List.set_cons_succ, List.set_cons_zero]
            have CG := bk4 hz
            replace D2 := bk_keep hx D2
            have C2 := bk4 D2
            by_cases hz0 : E = 0
            · rw [if_pos hz0] at hGG
              have hG2 := Lib.hid hGG
              have hne : (E != 0) = false := by simp [hz0]
              clear hGG hz0 hEe
              go_wp2_with (go_at_call 9; refine (hE.out _).mono ?_; rintro e w2 ⟨rfl, hb⟩; have hbw2 := via hw hb; replace D2 := bk_keep hb D2; replace hz := bk_keep hb hz; replace C2 := bk4 D2; replace CG := bk4 hz)
              refine bodyPost_ret (v := gval (⟨a, dx, dl, dh⟩, 0)) ?_ rfl ⟨by rw [hG2.out], ?_⟩
              · simp [results, Tryz.results7, go_sem, C2, gval]
              · go_grown
            · rw [if_neg hz0] at hGG
              have hG2 := Lib.hid hGG
              have hne : (E != 0) = true := by simpa using hz0
              clear hGG hz0 hEe
              go_wp2_with (go_at_call 9; refine (hE.out _).mono ?_; rintro e w2 ⟨rfl, hb⟩; have hbw2 := via hw hb; replace D2 := bk_keep hb D2; replace hz := bk_keep hb hz; replace C2 := bk4 D2; replace CG := bk4 hz)
              refine bodyPost_ret (v := gval (gx0, E)) ?_ rfl ⟨by rw [hG2.out], ?_⟩
              · simp [results, Tryz.results7, go_sem, C2, gval, gx0]
                rfl
              · go_grown
  · rw [parseG_short h4]
    have h4I : (((cutL l).length : Int) != 4) = true := by rw [bne_iff_ne]; omega
    go_enter Tryz.func7, Tryz.ntmps7
    go_wp2_with (go_at_call 22; refine (hSp.out _).mono ?_; rintro e w1 ⟨⟨A, c, rfl, hat⟩, hb⟩; have hbw := via (by go_grown : Below w.heap.size w _) hb; have B2 := bk_keep hb (bk_new _ _ rfl); have C2 := bk4 B2)
    refine bodyPost_ret (v := gval (gx0, 7)) ?_ rfl ⟨rfl, ?_⟩
    · simp [results, Tryz.results7, go_sem, C2, gval, gx0]
      rfl
    · go_grown
end Go.Proofs
