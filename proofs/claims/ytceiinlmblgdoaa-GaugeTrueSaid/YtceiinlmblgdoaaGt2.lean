import Derived.Test.YtceiinlmblgdoaaGt1
set_option linter.unusedSimpArgs false
set_option linter.unusedVariables false
namespace Go.Proofs
open Go.RowKit

theorem okDays_next {ds : List Int} {ws : List (Int × Int)} {k : Nat} {d : Int} {p : Int × Int} (hd : ds[k]? = some d) (hp : ws[k]? = some p) (h : okDays none (((trip ds ws).take k).map fun x => 1000 * x.1) = true) (hup : k = 0 ∨ ∃ d', ds[k - 1]? = some d' ∧ d' ≤ d) :
    okDays none (((trip ds ws).take (k + 1)).map fun x => 1000 * x.1) = true := by
  rw [take_snoc (trip_at hd hp), List.map_append, List.map_cons, List.map_nil, okDays_snoc, h, Bool.true_and]
  rcases hup with rfl | ⟨d', hd', hle⟩
  · simp [okDay]
  · by_cases hk : k = 0
    · subst hk; simp [okDay]
    · have hlt : k < ws.length := (List.getElem?_eq_some_iff.1 hp).1
      obtain ⟨p', hp'⟩ : ∃ p', ws[k - 1]? = some p' := ⟨_, List.getElem?_eq_getElem (by omega)⟩
      have e : ((trip ds ws).take k).getLast? = some (d', p') := by
        rw [List.getLast?_take, if_neg hk, trip_at hd' hp']
        rfl
      rw [List.getLast?_map, e]
      simp [okDay]
      omega
theorem cells_new (w : World) (vs : List Value) (t : TypeId) : ∀ j u, vs[j]? = some u → (w.alloc (.cells vs.toArray t)).cell? (Addr.add ⟨w.heap.size, 0, none⟩ j) = some u := by
  intro j u h
  rw [addr_add rfl, World.cell?_alloc_at _ _ _ _ rfl]
  simpa using h
theorem not_own {w : World} {base : Nat} {e : TypeId} {size n : Nat} {v : Value} {xs : List Value} (h : w.ownsRow base e size v n xs) {b : Nat} (hb : b < base) : some b ≠ v.ownBlock := by
  intro he
  have := (h.lt b he.symm).1
  omega
theorem ck_get (M : Int) (k : Nat) (h : k < 60) : (ckMoves M)[k]? = some (ckMv M (100 * ((k : Int) + 1))) := by
  unfold ckMoves ckDays
  rw [List.map_map, List.getElem?_map, List.getElem?_range h]
  rfl
theorem ck_take (M : Int) (k : Nat) (h : k < 60) : ((ckMoves M).take (k + 1)).flatMap Mv.cs = ((ckMoves M).take k).flatMap Mv.cs ++ (ckMv M (100 * ((k : Int) + 1))).cs := by
  rw [take_snoc (ck_get M k h), List.flatMap_append]
  simp
set_option maxRecDepth 100000 in
set_option maxHeartbeats 20000000 in
theorem gaugeTrue_asked (w : World) (V L M l0 l1 t : Int) (bA oA bA2 oA2 : Nat) (ds : List Int) (ws : List (Int × Int)) (c c2 : Nat)
    (hbA : bA < w.heap.size) (hA : ∀ (k : Nat) d, ds[k]? = some d → w.cell? ⟨bA, oA + k, none⟩ = some (.int .i64 d)) (hbA2 : bA2 < w.heap.size) (hA2 : ∀ (k : Nat) p, ws[k]? = some p → w.cell? ⟨bA2, oA2 + k * 2, none⟩ = some (.int .i64 p.1) ∧ w.cell? ⟨bA2, oA2 + k * 2 + 1, none⟩ = some (.int .i64 p.2)) (hask : Asked V L M l0 l1 t ds.length ws.length) :
    Calls Try.prog 3 #[.agg #[.int .i64 V, .int .i64 L, .int .i64 M, .slice (some ⟨bA, oA, none⟩) ds.length c, .slice (some ⟨bA2, oA2, none⟩) ws.length c2], .agg #[.int .i64 l0, .int .i64 l1], .int .i64 t] w fun e w' => e = .returned (.bool true) ∧ Below w.heap.size w w' := by
  have hA' := Lib.hid hA
  have hA2' := Lib.hid hA2
  clear hA hA2
  obtain ⟨q1, q2, q3, q4, q5, q6, q7, q8⟩ := hask
  have q5' : ((ds.length : Int) == 0) = false := by simpa using q5
  have q6' : (ds.length : Int) ≤ 8 := by omega
  have q7' : ¬ ws.length < ds.length := by omega
  go_enter Try.func3, Try.ntmps3
  go_wp2_with (first | (go_at_call 4; refine (awake_any _).mono ?_; rintro e w1 ⟨rfl, hb⟩; have hbw := via (by go_grown : Below w.heap.size w _) hb; have B0 : w1.heap[w.heap.size]? = some (.cells #[.int .i64 V, .int .i64 L, .int .i64 M, .slice (some ⟨bA, oA, none⟩) ds.length c, .slice (some ⟨bA2, oA2, none⟩) ws.length c2] 25 (0, 0)) := bk_keep hb (by (repeat (first | assumption | (refine bk_new _ _ ?_; (simp; done)) | refine bk_drew ?_ | refine bk_alloc ?_ _ | refine bk_set ?_ (by simp <;> omega) _))); have B1 : w1.heap[w.heap.size + 1]? = some (.cells #[.int .i64 l0, .int .i64 l1] 27 (0, 0)) := bk_keep hb (by (repeat (first | assumption | (refine bk_new _ _ ?_; (simp; done)) | refine bk_drew ?_ | refine bk_alloc ?_ _ | refine bk_set ?_ (by simp <;> omega) _))); have C0 := bk5 B0; have C1 := bk2 B1) | (go_at_call 5; refine (refWithin_any _ _ _ _).mono ?_; rintro e w' ⟨rfl, rfl⟩))
  refine wp_world ?_
  intro W hW_W
  have hb_W : Below w.heap.size w W := by rw [hW_W]; go_grown
  obtain ⟨g, hg⟩ : ∃ g, w1.heap.size = g := ⟨_, rfl⟩
  have hgw : w.heap.size + 2 ≤ g := by have := hb.size; simp at this; omega
  have D0 : W.heap[w.heap.size]? = some (.cells #[.int .i64 V, .int .i64 L, .int .i64 M, .slice (some ⟨bA, oA, none⟩) ds.length c, .slice (some ⟨bA2, oA2, none⟩) ws.length c2] 25 (0, 0)) := by rw [hW_W]; exact bk_alloc B0 _
  have D1 : W.heap[w.heap.size + 1]? = some (.cells #[.int .i64 l0, .int .i64 l1] 27 (0, 0)) := by rw [hW_W]; exact bk_alloc B1 _
  have D2 : W.heap[g]? = some (.cells #[.int .i64 l0, .int .i64 l1, .slice none 0 0, .slice none 0 0] 33 (0, 0)) := by rw [hW_W]; exact bk_new _ _ hg.symm
  have hsW : g + 1 ≤ W.heap.size := by rw [hW_W]; simp; omega
  rw [hg]
  clear hW_W B0 B1 C0 C1 hb hbw hg
  obtain ⟨i0, z0, hi, hz0, hz1, hzs, hz2⟩ := info_of (t := 35) (n := 4) (b := 48) (by kernel_rfl)
  obtain ⟨j0, y0, hj, hy0, hy1, hys, hy2⟩ := info_of (t := 39) (n := 4) (b := 40) (by kernel_rfl)
  go_loopw [8] (fun i wr => ∃ (k : Nat) (Av : Option Addr) (cv : Nat), k ≤ 60 ∧ i = .int .i64 (100 * ((k : Int) + 1)) ∧ wr.ownsRow (g + 1) 35 4 (.slice Av k cv) k (((ckMoves M).take k).flatMap Mv.cs) ∧ Below w.heap.size w wr ∧ wr.heap[w.heap.size]? = some (.cells #[.int .i64 V, .int .i64 L, .int .i64 M, .slice (some ⟨bA, oA, none⟩) ds.length c, .slice (some ⟨bA2, oA2, none⟩) ws.length c2] 25 (0, 0)) ∧ wr.heap[w.heap.size + 1]? = some (.cells #[.int .i64 l0, .int .i64 l1] 27 (0, 0)) ∧ g + 1 ≤ wr.heap.size ∧ wr.heap[g]? = some (.cells #[.int .i64 l0, .int .i64 l1, .slice none 0 0, .slice Av k cv] 33 (0, 0))) (fun i _ => (6200 - intOf i).toNat)
  case atStart => exact ⟨0, none, 0, by omega, rfl, World.ownsRow_nil _ _ _ _, hb_W, D0, D1, hsW, D2⟩
  case round =>
    obtain ⟨k, Av, cv, hk, rfl, hown, hbr, D0, D1, hsr, D2⟩ := hrel
    have C0 := bk5 D0
    have C1 := bk2 D1
    have C2 := bk4 D2
    by_cases hlt : k < 60
    · have hk1 : (100 * ((k : Int) + 1) ≤ 6000) := by omega
      go_wp2_with (at_builtin; refine wpList_append_own _ rfl _ _ 31 rfl (g + 1) 35 i0 z0 4 48 Try.underlying31 hi hz0 hz1 hz2 hzs (by decide) _ _ _ rfl (hown.alloc _) ⟨wr.heap.size, 0, none⟩ 1 1 (Mv.cs (ckMv M (100 * ((k : Int) + 1)))) rfl rfl ?c1 ?c2 ?c3 ?c4 ?c5 ?_)
      case c1 => exact cells_new _ (Mv.cs (ckMv M (100 * ((k : Int) + 1)))) _
      case c2 => intro u hu; simp [Mv.cs] at hu; rcases hu with rfl | rfl | rfl | rfl <;> rfl
      case c3 => unfold maxLen; omega
      case c4 => omega
      case c5 => simp; omega
      intro v' w3 hown3 hg3 _
      obtain ⟨g', cap, rfl, -, -⟩ := hown3.form (by omega)
      have hbr3 : Below w.heap.size w w3 := (via_alloc hbr _).grown hg3 (by have := hbr.size; simp; omega) (fun r e => by have := (hown.lt r e).1; omega)
      have E0 := bk_grown hg3 (bk_alloc D0 _) (not_own hown (by omega))
      have E1 := bk_grown hg3 (bk_alloc D1 _) (not_own hown (by omega))
      have E2 := bk_grown hg3 (bk_alloc D2 _) (not_own hown (by omega))
      have hs3 : g + 1 ≤ w3.heap.size := by have := bk_size E2; omega
      have hown3' := Lib.hid hown3
      clear C0 C1 C2 D0 D1 D2 hown hg3 hown3
      have C2 := bk4 E2
      go_wp2
      go_roundw
      case rel =>
        refine ⟨k + 1, _, _, by omega, by go_num, ?_, by go_grown, bk_set E0 (by dsimp only; omega) _, bk_set E1 (by dsimp only; omega) _, by simpa using hs3, bk_here E2 _ rfl⟩
        rw [ck_take M k hlt]
        exact ownsRow_setCell_below hown3'.out (by dsimp only; omega) _
      case measure => simp [intOf]; omega
    · have hk60 : k = 60 := by omega
      have hlt6 : ¬ 100 * ((k : Int) + 1) ≤ 6000 := by omega
      rw [hk60] at hown D2 C2
      have hmv := Lib.hid hown
      clear hown hlt
      clear hk60 hk
      obtain ⟨K, hK⟩ : ∃ K, 100 * ((k : Int) + 1) = K := ⟨_, rfl⟩
      rw [hK] at hlt6 ⊢
      clear hK
      go_wp2
      obtain ⟨g2, hg2⟩ : ∃ g2, wr.heap.size = g2 := ⟨_, rfl⟩
      have hmlt : ∀ r, (Value.slice Av 60 cv).ownBlock = some r → r < g2 := fun r e => by have := (hmv.out.lt r e).2; omega
      have hmn := Lib.hid hmlt
      have hsb0 : g < g2 := by have := bk_size D2; omega
      clear hmlt
      go_loopw [9] (fun i wr => ∃ (k : Nat), k ≤ ds.length ∧ i = .int .i64 (k : Int) ∧ ∃ (Ar : Option Addr) (cr : Nat), wr.ownsRow g2 39 4 (.slice Ar k cr) k ((((trip ds ws).take k).map (rdOf V L M)).flatMap Rd.cs) ∧ Below w.heap.size w wr ∧ wr.heap[w.heap.size]? = some (.cells #[.int .i64 V, .int .i64 L, .int .i64 M, .slice (some ⟨bA, oA, none⟩) ds.length c, .slice (some ⟨bA2, oA2, none⟩) ws.length c2] 25 (0, 0)) ∧ wr.heap[w.heap.size + 1]? = some (.cells #[.int .i64 l0, .int .i64 l1] 27 (0, 0)) ∧ g + 1 ≤ wr.heap.size ∧ g2 ≤ wr.heap.size ∧ wr.ownsRow (g + 1) 35 4 (.slice Av 60 cv) 60 (((ckMoves M).take 60).flatMap Mv.cs) ∧ wr.heap[g]? = some (.cells #[.int .i64 l0, .int .i64 l1, .slice Ar k cr, .slice Av 60 cv] 33 (0, 0)) ∧ Hid ((∀ x ∈ (trip ds ws).take k, inRow V L M x) ∧ okDays none (((trip ds ws).take k).map fun x => 1000 * x.1) = true)) (fun i _ => ds.length - (intOf i).toNat)
      case atStart => exact ⟨0, by omega, rfl, none, 0, World.ownsRow_nil _ _ _ _, hbr, D0, D1, hsr, by omega, hmv.out, D2, by simp, rfl⟩
      case round =>
        clear D0 D1 D2 C0 C1 C2 hbr hsr hmv hg2
        obtain ⟨k, hk, rfl, Ar, cr, hown, hbr, D0, D1, hsr, hg2, hmv, D2, hin⟩ := hrel
        have C0 := bk5 D0
        have C1 := bk2 D1
        have C2 := bk4 D2
        have hown' := Lib.hid hown
        have hmv' := Lib.hid hmv
        clear hown hmv
        by_cases hlt : k < ds.length
        · obtain ⟨d, hd⟩ : ∃ d, ds[k]? = some d := ⟨_, List.getElem?_eq_getElem hlt⟩
          obtain ⟨⟨a, b⟩, hp⟩ : ∃ p, ws[k]? = some p := ⟨_, List.getElem?_eq_getElem (by omega)⟩
          have hkI : (k : Int) < (ds.length : Int) := by omega
          have hkI2 : (k : Int) < (ws.length : Int) := by omega
          have v0 := (hbr.cell (p := ⟨bA, oA + k, none⟩) hbA).trans (hA'.out k d hd)
          have v1 := (hbr.cell (p := ⟨bA2, oA2 + k * 2, none⟩) hbA2).trans (hA2'.out k (a, b) hp).1
          have v2 := (hbr.cell (p := ⟨bA2, oA2 + k * 2 + 1, none⟩) hbA2).trans (hA2'.out k (a, b) hp).2
          dsimp only at v0 v1 v2
          have hbl : bA < wr.heap.size ∧ bA2 < wr.heap.size := by have := hbr.size; omega
          have hH := Lib.hid fun W => held_any V L M d (.slice (some ⟨bA, oA, none⟩) ds.length c) (.slice (some ⟨bA2, oA2, none⟩) ws.length c2) W
          obtain ⟨N, hN⟩ : ∃ N, heldW V L M d = N := ⟨_, rfl⟩
          rw [hN] at hH
          go_wp2
          refine region_all w (by kernel_rfl) (by kernel_rfl) (by go_grown) ?_
          intro hgc hbx
          repeat (go_big_quiet_step ((go_at_call 6; exact Grew.call (hH.out _))))
          refine wpQuiet_nil ?_
          intro wb hb_wb hw_wb hs_wb
          clear hgc hbx
          replace v0 := (hb_wb.cell (p := ⟨bA, oA + k, none⟩) hbl.1).trans v0
          replace v1 := (hb_wb.cell (p := ⟨bA2, oA2 + k * 2, none⟩) hbl.2).trans v1
          replace v2 := (hb_wb.cell (p := ⟨bA2, oA2 + k * 2 + 1, none⟩) hbl.2).trans v2
          replace hbl : bA < wb.heap.size ∧ bA2 < wb.heap.size := by omega
          replace D0 := bk_keep hb_wb D0
          replace D1 := bk_keep hb_wb D1
          replace D2 := bk_keep hb_wb D2
          replace C0 := bk5 D0
          replace C1 := bk2 D1
          replace C2 := bk4 D2
          replace hown' := Lib.hid (owns_below hown'.out hb_wb)
          replace hmv' := Lib.hid (owns_below hmv'.out hb_wb)
          have hsb1 : g + 1 ≤ wb.heap.size ∧ g2 ≤ wb.heap.size := by omega
          clear hbr hsr hg2 hb_wb hs_wb hH
          obtain ⟨e1, he1⟩ : ∃ q, within d 0 8 = q := ⟨_, rfl⟩
          obtain ⟨e3, he3⟩ : ∃ q, within a 0 100 = q := ⟨_, rfl⟩
          obtain ⟨e4, he4⟩ : ∃ q, within b 0 100 = q := ⟨_, rfl⟩
          have hWd := Lib.hid fun W => refWithin_any d 0 8 W
          have hWa := Lib.hid fun W => refWithin_any a 0 100 W
          have hWb := Lib.hid fun W => refWithin_any b 0 100 W
          rw [he1] at hWd
          rw [he3] at hWa
          rw [he4] at hWb
          cases e1 with
          | false =>
            go_wp2_with fail
            refine region_all w (by kernel_rfl) (by kernel_rfl) (by go_grown) ?_
            intro hgc hbx
            repeat (go_big_quiet_step ((go_at_call 5; first | with_reducible exact Grew.call_same (hWd.out _) | with_reducible exact Grew.call_same (hWa.out _) | with_reducible exact Grew.call_same (hWb.out _))))
            refine wpQuiet_nil ?_
            intro wx hb_wx hw_wx hs_wx
            clear hgc hbx
            go_wp2
            go_ret
            exact ⟨rfl, hw_wx⟩
          | true =>
          by_cases hk0 : k = 0
          · have hk1 : decide (0 < (k : Int)) = false := by simp; omega
            have hk2 : decide (0 < k) = false := by simp; omega
            have hup : Hid (k = 0 ∨ ∃ d', ds[k - 1]? = some d' ∧ d' ≤ d) := .inl hk0
            clear hk0
            cases e3 with
            | false =>
              go_wp2_with fail
              refine region_all w (by kernel_rfl) (by kernel_rfl) (by go_grown) ?_
              intro hgc hbx
              repeat (go_big_quiet_step ((go_at_call 5; first | with_reducible exact Grew.call_same (hWd.out _) | with_reducible exact Grew.call_same (hWa.out _) | with_reducible exact Grew.call_same (hWb.out _))))
              refine wpQuiet_nil ?_
              intro wx hb_wx hw_wx hs_wx
              clear hgc hbx
              go_wp2
              go_ret
              exact ⟨rfl, hw_wx⟩
            | true =>
              cases e4 with
              | false =>
                go_wp2_with fail
                refine region_all w (by kernel_rfl) (by kernel_rfl) (by go_grown) ?_
                intro hgc hbx
                repeat (go_big_quiet_step ((go_at_call 5; first | with_reducible exact Grew.call_same (hWd.out _) | with_reducible exact Grew.call_same (hWa.out _) | with_reducible exact Grew.call_same (hWb.out _))))
                refine wpQuiet_nil ?_
                intro wx hb_wx hw_wx hs_wx
                clear hgc hbx
                go_wp2
                go_ret
                exact ⟨rfl, hw_wx⟩
              | true =>
                by_cases hN1 : N < 100
                · have hN2 : decide (N < 100) = true := by simpa using hN1
                  go_wp2_with fail
                  refine region_all w (by kernel_rfl) (by kernel_rfl) (by go_grown) ?_
                  intro hgc hbx
                  repeat (go_big_quiet_step ((go_at_call 5; first | with_reducible exact Grew.call_same (hWd.out _) | with_reducible exact Grew.call_same (hWa.out _) | with_reducible exact Grew.call_same (hWb.out _))))
                  refine wpQuiet_nil ?_
                  intro wx hb_wx hw_wx hs_wx
                  clear hgc hbx
                  go_wp2
                  go_ret
                  exact ⟨rfl, hw_wx⟩
                · have hN2 : decide (N < 100) = false := by simpa using hN1
                  go_wp2_with fail
                  refine region_all w (by kernel_rfl) (by kernel_rfl) (by go_grown) ?_
                  intro hgc hbx
                  repeat (go_big_quiet_step ((go_at_call 5; first | with_reducible exact Grew.call_same (hWd.out _) | with_reducible exact Grew.call_same (hWa.out _) | with_reducible exact Grew.call_same (hWb.out _))))
                  refine wpQuiet_nil ?_
                  intro wx hb_wx hw_wx hs_wx
                  clear hgc hbx
                  replace v0 := (hb_wx.cell (p := ⟨bA, oA + k, none⟩) hbl.1).trans v0
                  replace v1 := (hb_wx.cell (p := ⟨bA2, oA2 + k * 2, none⟩) hbl.2).trans v1
                  replace v2 := (hb_wx.cell (p := ⟨bA2, oA2 + k * 2 + 1, none⟩) hbl.2).trans v2
                  replace D0 := bk_keep hb_wx D0
                  replace D1 := bk_keep hb_wx D1
                  replace D2 := bk_keep hb_wx D2
                  replace hown' := Lib.hid (owns_below hown'.out hb_wx)
                  replace hmv' := Lib.hid (owns_below hmv'.out hb_wx)
                  have hsb : g + 1 ≤ wx.heap.size ∧ g2 ≤ wx.heap.size := by omega
                  clear C0 C1 C2 hw_wb hb_wx hs_wx hbl hWd hWa hWb
                  go_wp2_with fail
                  have hwx := hw_wx
                  have nB := not_own hown'.out hsb0
                  have zD : 0 ≤ d ∧ d ≤ 8 := within_true he1
                  have zA : 0 ≤ a ∧ a ≤ 100 := within_true he3
                  have zB : 0 ≤ b ∧ b ≤ 100 := within_true he4
                  have zN : Hid (N = heldV V L M d) := by unfold Hid; rw [← hN]; exact heldW_eq (within_true q1) ⟨by have := within_true q2; omega, by have := within_true q3; omega⟩ (within_true q4) zD
                  have zT : N ≤ 50000 := by rw [zN.out]; exact held_top (within_true q1).2 (by have := within_true q2; omega) (within_true q4).1 zD.1
                  have wD : IntKind.i64.wrap (1000 * d) = 1000 * d := IntWalk.i64_in _ (by omega)
                  have wA : IntKind.i64.wrap (N - a) = N - a := IntWalk.i64_in _ (by omega)
                  have wB : IntKind.i64.wrap (N + b) = N + b := IntWalk.i64_in _ (by omega)
                  have wD2 : wrap64 (1000 * d) = 1000 * d := wrap64_in _ (by omega)
                  have wA2 : wrap64 (N - a) = N - a := wrap64_in _ (by omega)
                  have wB2 : wrap64 (N + b) = N + b := wrap64_in _ (by omega)
                  apply region_app w (fun x => Below w.heap.size w x ∧ x.heap[w.heap.size]? = some (.cells #[.int .i64 V, .int .i64 L, .int .i64 M, .slice (some ⟨bA, oA, none⟩) ds.length c, .slice (some ⟨bA2, oA2, none⟩) ws.length c2] 25 (0, 0)) ∧ x.heap[w.heap.size + 1]? = some (.cells #[.int .i64 l0, .int .i64 l1] 27 (0, 0)) ∧ g2 ≤ x.heap.size ∧ x.ownsRow (g + 1) 35 4 (.slice Av 60 cv) 60 (((ckMoves M).take 60).flatMap Mv.cs))
                    1 26 27 29 g 2 #[.int .i64 l0, .int .i64 l1, .slice Ar k cr, .slice Av 60 cv] 33 (.cells #[.string caskS, .int .i64 (1000 * d), .int .i64 (N - a), .int .i64 (N + b)] 39 (0, 0)) g2 39 4 (.slice Ar k cr) k ((((trip ds ws).take k).map (rdOf V L M)).flatMap Rd.cs) [.string caskS, .int .i64 (1000 * d), .int .i64 (N - a), .int .i64 (N + b)]
                  case hm => kernel_rfl
                  case hB => kernel_rfl
                  case hB' => intro g; kernel_rfl
                  case hS => kernel_rfl
                  case hN => kernel_rfl
                  case hne => decide
                  case hd => kernel_rfl
                  case hd2 => kernel_rfl
                  case hC0 => exact ⟨hw_wx, D0, D1, hsb.2, hmv'.out⟩
                  case hCs => exact fun x x' ⟨h1, h2, h3, h4, h5⟩ hb => ⟨via h1 hb, bk_keep hb h2, bk_keep hb h3, Nat.le_trans h4 hb.size, owns_below h5 hb⟩
                  case hCw => exact fun x h => h.1
                  case hCg =>
                    intro x x' row ⟨h1, h2, h3, h4, h5⟩ hg hr
                    refine ⟨h1.grown hg (by have := h1.size; omega) (fun r e => by have := hr r e; omega), bk_grown hg h2 (fun e => by have := hr _ e.symm; omega), bk_grown hg h3 (fun e => by have := hr _ e.symm; omega), Nat.le_trans h4 hg.size, h5.kept hg ?_⟩
                    cases ho : (Value.slice Av 60 cv).ownBlock with
                    | none => exact .inl rfl
                    | some r =>
                      right
                      intro e
                      have := hr r e.symm
                      have := hmn.out r ho
                      omega
                  case hCt =>
                    intro x u ⟨h1, h2, h3, h4, h5⟩
                    exact ⟨h1.setCell (by dsimp only; omega) u, bk_set h2 (by dsimp only; omega) u, bk_set h3 (by dsimp only; omega) u, by simpa using h4, ownsRow_setCell_below h5 (by dsimp only; omega) u⟩
                  case hbase => omega
                  case hbs => exact .inr hsb.2
                  case hblk => exact D2
                  case hown => exact hown'.out
                  case hCz => exact fun x h => h.2.2.2.1
                  case hq =>
                    intro gg u ⟨k1, k2, k3, k4, k5⟩ hgc hbx hbX
                    have C0 := bk5 k2
                    have C1 := bk2 k3
                    have u0 := (k1.cell (p := ⟨bA, oA + k, none⟩) hbA).trans (hA'.out k d hd)
                    have u1 := (k1.cell (p := ⟨bA2, oA2 + k * 2, none⟩) hbA2).trans (hA2'.out k (a, b) hp).1
                    have u2 := (k1.cell (p := ⟨bA2, oA2 + k * 2 + 1, none⟩) hbA2).trans (hA2'.out k (a, b) hp).2
                    have ub : bA < u.heap.size := by have := k1.size; omega
                    have ub2 : bA2 < u.heap.size := by have := k1.size; omega
                    simp only [mixL, mkA, rowG, yieldsC, List.contains_cons, List.contains_nil, Nat.reduceAdd, Nat.reduceBEq, Nat.reduceEqDiff, Nat.zero_add, Bool.or_false, Bool.or_true, Bool.false_or, Bool.true_or, Bool.false_eq_true, if_true, if_false, Bool.or_self]
                    repeat (go_big_quiet_step (fail))
                    exact wpQuiet_nil rfl
                  case hind => intro j hj; simp only [List.mem_cons, List.not_mem_nil, or_false] at hj; rcases hj with rfl | rfl | rfl | rfl <;> (intro g h; kernel_rfl)
                  case hr =>
                    intro o ho gg x hC hb
                    simp only [List.getElem?_cons_succ, List.getElem?_cons_zero, Option.some.injEq] at ho
                    subst ho
                    exact run_load_slice rfl (by kernel_rfl) (by kernel_rfl) (bk4 hb).2.2.1
                  case hm1 =>
                    intro o ho gg x
                    simp only [List.getElem?_cons_succ, List.getElem?_cons_zero, Option.some.injEq] at ho
                    subst ho
                    kernel_rfl
                  case hq1 =>
                    intro o ho gg x hC hown hb
                    simp only [List.getElem?_cons_succ, List.getElem?_cons_zero, Option.some.injEq] at ho
                    subst ho
                    exact exec_append (.tmp 150) (.tmp 175) 30 39 j0 y0 _ 4 40 g2 k _ _ _ 39 rfl (by kernel_rfl) (by kernel_rfl) Try.underlying30 hj hy0 hy1 hy2 hys (by decide) hown hb rfl (by intro u hu; simp at hu; rcases hu with rfl | rfl | rfl | rfl <;> rfl) (by unfold maxLen; omega) (by omega) hC.2.2.2.1
                  case hk1 =>
                    intro o ho gg x hb
                    simp only [List.getElem?_cons_succ, List.getElem?_cons_zero, Option.some.injEq] at ho
                    subst ho
                    have C2 := bk4 hb
                    exact run_store_slice rfl (by kernel_rfl) (by kernel_rfl) (by kernel_rfl) C2.2.2.1 (bk_free hb 2)
                  case hend =>
                    intro gg x ⟨h1, h2, h3, h4, h5⟩ hb hown
                    have hrow : (((trip ds ws).take (k + 1)).map (rdOf V L M)).flatMap Rd.cs = (((trip ds ws).take k).map (rdOf V L M)).flatMap Rd.cs ++ [.string caskS, .int .i64 (1000 * d), .int .i64 (N - a), .int .i64 (N + b)] := by
                      rw [take_snoc (trip_at hd hp), List.map_append, List.flatMap_append, zN.out]
                      simp [rdOf, Rd.cs]
                    have hin' : Hid ((∀ x ∈ (trip ds ws).take (k + 1), inRow V L M x) ∧ okDays none (((trip ds ws).take (k + 1)).map fun x => 1000 * x.1) = true) := by
                      refine ⟨fun x hx => ?_, ?_⟩
                      · rw [take_snoc (trip_at hd hp)] at hx
                        rcases List.mem_append.1 hx with hx | hx
                        · exact hin.out.1 x hx
                        · simp only [List.mem_cons, List.not_mem_nil, or_false] at hx
                          subst hx
                          exact ⟨zD, zA, zB, by dsimp only; rw [← zN.out]; omega⟩
                      · exact okDays_next hd hp hin.out.2 hup.out
                    have hrow' := Lib.hid hrow
                    have hown1 := Lib.hid hown
                    have h5' := Lib.hid h5
                    clear hrow hown h5 v0 v1 v2 D0 D1 D2
                    go_wp2
                    go_roundw
                    case rel => exact ⟨k + 1, by omega, by go_num, _, _, by rw [hrow'.out]; exact hown1.out, h1, h2, h3, by omega, h4, h5'.out, hb, hin'⟩
                    case measure => simp [intOf]; omega
          · have hk1 : decide (0 < (k : Int)) = true := by simp; omega
            have hk2 : decide (0 < k) = true := by simp; omega
            obtain ⟨d', hd'⟩ : ∃ d', ds[k - 1]? = some d' := ⟨_, List.getElem?_eq_getElem (by omega)⟩
            have v3 := (hw_wb.cell (p := ⟨bA, oA + (k - 1), none⟩) hbA).trans (hA'.out (k - 1) d' hd')
            have hks : IntKind.i64.wrap ((k : Int) - 1) = ((k - 1 : Nat) : Int) := by rw [IntWalk.i64_in _ (by omega)]; omega
            have hks2 : wrap64 ((k : Int) - 1) = ((k - 1 : Nat) : Int) := by unfold wrap64; omega
            have hkJ : ((k - 1 : Nat) : Int) < (ds.length : Int) := by omega
            by_cases hdd : d < d'
            · have hd1 : decide (d < d') = true := by simpa using hdd
              go_wp2_with fail
              refine region_all w (by kernel_rfl) (by kernel_rfl) (by go_grown) ?_
              intro hgc hbx
              repeat (go_big_quiet_step ((go_at_call 5; first | with_reducible exact Grew.call_same (hWd.out _) | with_reducible exact Grew.call_same (hWa.out _) | with_reducible exact Grew.call_same (hWb.out _))))
              refine wpQuiet_nil ?_
              intro wx hb_wx hw_wx hs_wx
              clear hgc hbx
              go_wp2
              go_ret
              exact ⟨rfl, hw_wx⟩
            · have hd1 : decide (d < d') = false := by simpa using hdd
              have hup : Hid (k = 0 ∨ ∃ d', ds[k - 1]? = some d' ∧ d' ≤ d) := .inr ⟨d', hd', by omega⟩
              clear hk0 hd'
              cases e3 with
              | false =>
                go_wp2_with fail
                refine region_all w (by kernel_rfl) (by kernel_rfl) (by go_grown) ?_
                intro hgc hbx
                repeat (go_big_quiet_step ((go_at_call 5; first | with_reducible exact Grew.call_same (hWd.out _) | with_reducible exact Grew.call_same (hWa.out _) | with_reducible exact Grew.call_same (hWb.out _))))
                refine wpQuiet_nil ?_
                intro wx hb_wx hw_wx hs_wx
                clear hgc hbx
                go_wp2
                go_ret
                exact ⟨rfl, hw_wx⟩
              | true =>
                cases e4 with
                | false =>
                  go_wp2_with fail
                  refine region_all w (by kernel_rfl) (by kernel_rfl) (by go_grown) ?_
                  intro hgc hbx
                  repeat (go_big_quiet_step ((go_at_call 5; first | with_reducible exact Grew.call_same (hWd.out _) | with_reducible exact Grew.call_same (hWa.out _) | with_reducible exact Grew.call_same (hWb.out _))))
                  refine wpQuiet_nil ?_
                  intro wx hb_wx hw_wx hs_wx
                  clear hgc hbx
                  go_wp2
                  go_ret
                  exact ⟨rfl, hw_wx⟩
                | true =>
                  by_cases hN1 : N < 100
                  · have hN2 : decide (N < 100) = true := by simpa using hN1
                    go_wp2_with fail
                    refine region_all w (by kernel_rfl) (by kernel_rfl) (by go_grown) ?_
                    intro hgc hbx
                    repeat (go_big_quiet_step ((go_at_call 5; first | with_reducible exact Grew.call_same (hWd.out _) | with_reducible exact Grew.call_same (hWa.out _) | with_reducible exact Grew.call_same (hWb.out _))))
                    refine wpQuiet_nil ?_
                    intro wx hb_wx hw_wx hs_wx
                    clear hgc hbx
                    go_wp2
                    go_ret
                    exact ⟨rfl, hw_wx⟩
                  · have hN2 : decide (N < 100) = false := by simpa using hN1
                    go_wp2_with fail
                    refine region_all w (by kernel_rfl) (by kernel_rfl) (by go_grown) ?_
                    intro hgc hbx
                    repeat (go_big_quiet_step ((go_at_call 5; first | with_reducible exact Grew.call_same (hWd.out _) | with_reducible exact Grew.call_same (hWa.out _) | with_reducible exact Grew.call_same (hWb.out _))))
                    refine wpQuiet_nil ?_
                    intro wx hb_wx hw_wx hs_wx
                    clear hgc hbx
                    replace v0 := (hb_wx.cell (p := ⟨bA, oA + k, none⟩) hbl.1).trans v0
                    replace v1 := (hb_wx.cell (p := ⟨bA2, oA2 + k * 2, none⟩) hbl.2).trans v1
                    replace v2 := (hb_wx.cell (p := ⟨bA2, oA2 + k * 2 + 1, none⟩) hbl.2).trans v2
                    replace D0 := bk_keep hb_wx D0
                    replace D1 := bk_keep hb_wx D1
                    replace D2 := bk_keep hb_wx D2
                    replace hown' := Lib.hid (owns_below hown'.out hb_wx)
                    replace hmv' := Lib.hid (owns_below hmv'.out hb_wx)
                    have hsb : g + 1 ≤ wx.heap.size ∧ g2 ≤ wx.heap.size := by omega
                    clear C0 C1 C2 hw_wb hb_wx hs_wx hbl hWd hWa hWb
                    go_wp2_with fail
                    have hwx := hw_wx
                    have nB := not_own hown'.out hsb0
                    have zD : 0 ≤ d ∧ d ≤ 8 := within_true he1
                    have zA : 0 ≤ a ∧ a ≤ 100 := within_true he3
                    have zB : 0 ≤ b ∧ b ≤ 100 := within_true he4
                    have zN : Hid (N = heldV V L M d) := by unfold Hid; rw [← hN]; exact heldW_eq (within_true q1) ⟨by have := within_true q2; omega, by have := within_true q3; omega⟩ (within_true q4) zD
                    have zT : N ≤ 50000 := by rw [zN.out]; exact held_top (within_true q1).2 (by have := within_true q2; omega) (within_true q4).1 zD.1
                    have wD : IntKind.i64.wrap (1000 * d) = 1000 * d := IntWalk.i64_in _ (by omega)
                    have wA : IntKind.i64.wrap (N - a) = N - a := IntWalk.i64_in _ (by omega)
                    have wB : IntKind.i64.wrap (N + b) = N + b := IntWalk.i64_in _ (by omega)
                    have wD2 : wrap64 (1000 * d) = 1000 * d := wrap64_in _ (by omega)
                    have wA2 : wrap64 (N - a) = N - a := wrap64_in _ (by omega)
                    have wB2 : wrap64 (N + b) = N + b := wrap64_in _ (by omega)
                    apply region_app w (fun x => Below w.heap.size w x ∧ x.heap[w.heap.size]? = some (.cells #[.int .i64 V, .int .i64 L, .int .i64 M, .slice (some ⟨bA, oA, none⟩) ds.length c, .slice (some ⟨bA2, oA2, none⟩) ws.length c2] 25 (0, 0)) ∧ x.heap[w.heap.size + 1]? = some (.cells #[.int .i64 l0, .int .i64 l1] 27 (0, 0)) ∧ g2 ≤ x.heap.size ∧ x.ownsRow (g + 1) 35 4 (.slice Av 60 cv) 60 (((ckMoves M).take 60).flatMap Mv.cs))
                      1 26 27 29 g 2 #[.int .i64 l0, .int .i64 l1, .slice Ar k cr, .slice Av 60 cv] 33 (.cells #[.string caskS, .int .i64 (1000 * d), .int .i64 (N - a), .int .i64 (N + b)] 39 (0, 0)) g2 39 4 (.slice Ar k cr) k ((((trip ds ws).take k).map (rdOf V L M)).flatMap Rd.cs) [.string caskS, .int .i64 (1000 * d), .int .i64 (N - a), .int .i64 (N + b)]
                    case hm => kernel_rfl
                    case hB => kernel_rfl
                    case hB' => intro g; kernel_rfl
                    case hS => kernel_rfl
                    case hN => kernel_rfl
                    case hne => decide
                    case hd => kernel_rfl
                    case hd2 => kernel_rfl
                    case hC0 => exact ⟨hw_wx, D0, D1, hsb.2, hmv'.out⟩
                    case hCs => exact fun x x' ⟨h1, h2, h3, h4, h5⟩ hb => ⟨via h1 hb, bk_keep hb h2, bk_keep hb h3, Nat.le_trans h4 hb.size, owns_below h5 hb⟩
                    case hCw => exact fun x h => h.1
                    case hCg =>
                      intro x x' row ⟨h1, h2, h3, h4, h5⟩ hg hr
                      refine ⟨h1.grown hg (by have := h1.size; omega) (fun r e => by have := hr r e; omega), bk_grown hg h2 (fun e => by have := hr _ e.symm; omega), bk_grown hg h3 (fun e => by have := hr _ e.symm; omega), Nat.le_trans h4 hg.size, h5.kept hg ?_⟩
                      cases ho : (Value.slice Av 60 cv).ownBlock with
                      | none => exact .inl rfl
                      | some r =>
                        right
                        intro e
                        have := hr r e.symm
                        have := hmn.out r ho
                        omega
                    case hCt =>
                      intro x u ⟨h1, h2, h3, h4, h5⟩
                      exact ⟨h1.setCell (by dsimp only; omega) u, bk_set h2 (by dsimp only; omega) u, bk_set h3 (by dsimp only; omega) u, by simpa using h4, ownsRow_setCell_below h5 (by dsimp only; omega) u⟩
                    case hbase => omega
                    case hbs => exact .inr hsb.2
                    case hblk => exact D2
                    case hown => exact hown'.out
                    case hCz => exact fun x h => h.2.2.2.1
                    case hq =>
                      intro gg u ⟨k1, k2, k3, k4, k5⟩ hgc hbx hbX
                      have C0 := bk5 k2
                      have C1 := bk2 k3
                      have u0 := (k1.cell (p := ⟨bA, oA + k, none⟩) hbA).trans (hA'.out k d hd)
                      have u1 := (k1.cell (p := ⟨bA2, oA2 + k * 2, none⟩) hbA2).trans (hA2'.out k (a, b) hp).1
                      have u2 := (k1.cell (p := ⟨bA2, oA2 + k * 2 + 1, none⟩) hbA2).trans (hA2'.out k (a, b) hp).2
                      have ub : bA < u.heap.size := by have := k1.size; omega
                      have ub2 : bA2 < u.heap.size := by have := k1.size; omega
                      simp only [mixL, mkA, rowG, yieldsC, List.contains_cons, List.contains_nil, Nat.reduceAdd, Nat.reduceBEq, Nat.reduceEqDiff, Nat.zero_add, Bool.or_false, Bool.or_true, Bool.false_or, Bool.true_or, Bool.false_eq_true, if_true, if_false, Bool.or_self]
                      repeat (go_big_quiet_step (fail))
                      exact wpQuiet_nil rfl
                    case hind => intro j hj; simp only [List.mem_cons, List.not_mem_nil, or_false] at hj; rcases hj with rfl | rfl | rfl | rfl <;> (intro g h; kernel_rfl)
                    case hr =>
                      intro o ho gg x hC hb
                      simp only [List.getElem?_cons_succ, List.getElem?_cons_zero, Option.some.injEq] at ho
                      subst ho
                      exact run_load_slice rfl (by kernel_rfl) (by kernel_rfl) (bk4 hb).2.2.1
                    case hm1 =>
                      intro o ho gg x
                      simp only [List.getElem?_cons_succ, List.getElem?_cons_zero, Option.some.injEq] at ho
                      subst ho
                      kernel_rfl
                    case hq1 =>
                      intro o ho gg x hC hown hb
                      simp only [List.getElem?_cons_succ, List.getElem?_cons_zero, Option.some.injEq] at ho
                      subst ho
                      exact exec_append (.tmp 150) (.tmp 175) 30 39 j0 y0 _ 4 40 g2 k _ _ _ 39 rfl (by kernel_rfl) (by kernel_rfl) Try.underlying30 hj hy0 hy1 hy2 hys (by decide) hown hb rfl (by intro u hu; simp at hu; rcases hu with rfl | rfl | rfl | rfl <;> rfl) (by unfold maxLen; omega) (by omega) hC.2.2.2.1
                    case hk1 =>
                      intro o ho gg x hb
                      simp only [List.getElem?_cons_succ, List.getElem?_cons_zero, Option.some.injEq] at ho
                      subst ho
                      have C2 := bk4 hb
                      exact run_store_slice rfl (by kernel_rfl) (by kernel_rfl) (by kernel_rfl) C2.2.2.1 (bk_free hb 2)
                    case hend =>
                      intro gg x ⟨h1, h2, h3, h4, h5⟩ hb hown
                      have hrow : (((trip ds ws).take (k + 1)).map (rdOf V L M)).flatMap Rd.cs = (((trip ds ws).take k).map (rdOf V L M)).flatMap Rd.cs ++ [.string caskS, .int .i64 (1000 * d), .int .i64 (N - a), .int .i64 (N + b)] := by
                        rw [take_snoc (trip_at hd hp), List.map_append, List.flatMap_append, zN.out]
                        simp [rdOf, Rd.cs]
                      have hin' : Hid ((∀ x ∈ (trip ds ws).take (k + 1), inRow V L M x) ∧ okDays none (((trip ds ws).take (k + 1)).map fun x => 1000 * x.1) = true) := by
                        refine ⟨fun x hx => ?_, ?_⟩
                        · rw [take_snoc (trip_at hd hp)] at hx
                          rcases List.mem_append.1 hx with hx | hx
                          · exact hin.out.1 x hx
                          · simp only [List.mem_cons, List.not_mem_nil, or_false] at hx
                            subst hx
                            exact ⟨zD, zA, zB, by dsimp only; rw [← zN.out]; omega⟩
                        · exact okDays_next hd hp hin.out.2 hup.out
                      have hrow' := Lib.hid hrow
                      have hown1 := Lib.hid hown
                      have h5' := Lib.hid h5
                      clear hrow hown h5 v0 v1 v2 D0 D1 D2
                      go_wp2
                      go_roundw
                      case rel => exact ⟨k + 1, by omega, by go_num, _, _, by rw [hrow'.out]; exact hown1.out, h1, h2, h3, by omega, h4, h5'.out, hb, hin'⟩
                      case measure => simp [intOf]; omega
        · have hkn : k = ds.length := by omega
          have htl : (trip ds ws).length = ds.length := trip_len q7
          obtain ⟨rs, hrs⟩ : ∃ rs, (trip ds ws).map (rdOf V L M) = rs := ⟨_, rfl⟩
          have hrl : rs.length = k := by rw [← hrs, List.length_map, htl, hkn]
          have hcel : Cel V L M l0 l1 (trip ds ws) := by
            have := hin.out
            rw [hkn, List.take_of_length_le (by omega)] at this
            exact ⟨within_true q1, within_true q2, within_true q3, within_true q4, by omega, this.1, this.2⟩
          have hok := cel_right hcel
          have hno := cel_pairs hcel
          obtain ⟨va, vb, hv, hva, hvb⟩ := cel_told hcel t (within_true q8).1 (within_true q8).2
          have hML : (ckMoves M).length = 60 := by simp [ckMoves, ckDays]
          have hszR : ∀ x ∈ rs, x.c.size ≤ 9223372036854775807 := by
            intro x hx
            rw [← hrs] at hx
            obtain ⟨y, -, rfl⟩ := List.mem_map.1 hx
            show caskS.size ≤ _
            decide
          have hszM : ∀ x ∈ ckMoves M, x.f.size ≤ 9223372036854775807 ∧ x.t.size ≤ 9223372036854775807 := by
            intro x hx
            obtain ⟨y, -, rfl⟩ := List.mem_map.1 hx
            exact ⟨by show caskS.size ≤ _; decide, by show noneS.size ≤ _; decide⟩
          have o1 := hown'.out
          rw [hkn, List.take_of_length_le (by omega), hrs, ← hkn, ← hrl] at o1
          have o2 := hmv'.out
          rw [List.take_of_length_le (by omega)] at o2
          rw [hrs] at hok hno hv
          obtain ⟨ms, hms⟩ : ∃ ms, ckMoves M = ms := ⟨_, rfl⟩
          rw [hms] at hok hno hv hszM o2 hML
          rw [← hML] at o2
          obtain ⟨A3, c3, e3, hat3⟩ := at_of_owns (cs := Rd.cs) (sz := 4) (fun _ => rfl) o1
          obtain ⟨A4, c4, e4, hat4⟩ := at_of_owns (cs := Mv.cs) (sz := 4) (fun _ => rfl) o2
          rw [hrl] at e3
          rw [hML] at e4
          injection e3 with e31 _ e33
          injection e4 with e41 _ e43
          subst e31 e33 e41 e43
          have hB : Hid (∀ W, Below wr.heap.size wr W → At 4 Rd.cs W Ar rs ∧ At 4 Mv.cs W Av ms) := fun W h => ⟨hat3.below h, hat4.below h⟩
          have hCpy := Lib.hid fun W (h : At 4 Rd.cs W Ar rs ∧ At 4 Mv.cs W Av ms) => copyBook_any l0 l1 Ar Av rs ms cr cv W (by omega) (by omega) h.1 h.2
          have hVol := Lib.hid fun A A2 c c2 W (h1 : At 4 Rd.cs W A rs) (h2 : At 4 Mv.cs W A2 ms) => volumeAt_any l0 l1 A A2 rs ms c c2 caskS (1000 * t) W hszR h1 hszM h2 (by decide)
          have hCon := Lib.hid fun A A2 c c2 W (h1 : At 4 Rd.cs W A rs) (h2 : At 4 Mv.cs W A2 ms) => contradictions_any l0 l1 A A2 rs ms c c2 W hszR h1 hszM h2
          have hBl := Lib.hid fun W (h : At 4 Rd.cs W Ar rs ∧ At 4 Mv.cs W Av ms) => blamed_none l0 l1 Ar Av rs ms cr cv W hszR h.1 hszM h.2 hok hno
          have hcv : contV l0 l1 rs ms = [] := by unfold contV; rw [if_pos hok, hno]
          rw [hv] at hVol
          rw [hcv, hok] at hCon
          rw [hrl, hML] at hCpy hBl
          have hH := Lib.hid fun W => held_any V L M t (.slice (some ⟨bA, oA, none⟩) ds.length c) (.slice (some ⟨bA2, oA2, none⟩) ws.length c2) W
          have hwt : heldW V L M t = heldV V L M t := heldW_eq (within_true q1) ⟨by have := within_true q2; omega, by have := within_true q3; omega⟩ (within_true q4) (within_true q8)
          rw [hwt] at hH
          have hWt := Lib.hid fun W => refWithin_any (heldV V L M t) va vb W
          rw [show within (heldV V L M t) va vb = true by unfold within; simp; exact ⟨hva, hvb⟩] at hWt
          have wT : IntKind.i64.wrap (1000 * t) = 1000 * t := IntWalk.i64_in _ (by have := within_true q8; omega)
          have wT2 : wrap64 (1000 * t) = 1000 * t := wrap64_in _ (by have := within_true q8; omega)
          generalize heldV V L M t = N at *
          clear hat3 hat4 o1 o2 hv hva hvb hok hno hcel hin hown' hmv' hmn hwt hcv hszR hszM
          have hlt9 : ¬ (k : Int) < (ds.length : Int) := by omega
          clear hrl hML hkn htl hlt hrs hms
          have hbr' := Lib.hid hbr
          have hb_wr : Below wr.heap.size wr wr := Below.refl _ _
          go_wp2_with (first | (go_at_call 8; refine (hCpy.out _ (hB.out _ hb_wr)).mono ?_; rintro e w3 ⟨⟨A5, c5, B5, d5, rfl, h3, h4⟩, hb⟩; replace hb_wr := via hb_wr hb; replace hbr := via hbr hb; replace D0 := bk_keep hb D0; replace D1 := bk_keep hb D1; replace D2 := bk_keep hb D2; replace C0 := bk5 D0; replace C1 := bk2 D1; replace C2 := bk4 D2) | (go_at_call 7; refine (hVol.out _ _ _ _ _ h3 h4).mono ?_; rintro e w4 ⟨rfl, hb⟩; replace hb_wr := via hb_wr hb; replace hbr := via hbr hb; replace D0 := bk_keep hb D0; replace D1 := bk_keep hb D1; replace D2 := bk_keep hb D2; replace C0 := bk5 D0; replace C1 := bk2 D1; replace C2 := bk4 D2))
          refine (hCpy.out _ (hB.out _ (via_alloc hb_wr _))).mono ?_
          rintro e w5 ⟨⟨A6, c6, B6, d6, rfl, h5, h6⟩, hb⟩
          have B11 : w5.heap[w4.heap.size]? = some (.cells #[.int .i64 va, .int .i64 vb] 27 (0, 0)) := bk_keep hb (bk_new _ _ rfl)
          replace hb_wr := via (via_alloc hb_wr _) hb
          replace hbr := via (via_alloc hbr _) hb
          replace D0 := bk_keep hb (bk_alloc D0 _)
          replace D1 := bk_keep hb (bk_alloc D1 _)
          replace D2 := bk_keep hb (bk_alloc D2 _)
          replace C0 := bk5 D0
          replace C1 := bk2 D1
          replace C2 := bk4 D2
          have C11 := bk2 B11
          clear h3 h4
          go_wp2_with (first | (go_at_call 9; refine (hCon.out _ _ _ _ _ h5 h6).mono ?_; rintro e w6 ⟨⟨A8, c8, rfl, -⟩, hb⟩; replace hb_wr := via hb_wr hb; (replace hbr := via hbr hb; replace D0 := bk_keep hb D0; replace D1 := bk_keep hb D1; replace D2 := bk_keep hb D2; replace C0 := bk5 D0; replace C1 := bk2 D1; replace C2 := bk4 D2; replace B11 := bk_keep hb B11; replace C11 := bk2 B11)) | (go_at_call 10; refine (hBl.out _ (hB.out _ hb_wr)).mono ?_; rintro e w7 ⟨⟨A9, c9, rfl⟩, hb⟩; replace hb_wr := via hb_wr hb; (replace hbr := via hbr hb; replace D0 := bk_keep hb D0; replace D1 := bk_keep hb D1; replace D2 := bk_keep hb D2; replace C0 := bk5 D0; replace C1 := bk2 D1; replace C2 := bk4 D2; replace B11 := bk_keep hb B11; replace C11 := bk2 B11)))
          clear hVol hCon hCpy hBl hB h5 h6 C2 D2
          refine region_all w (by kernel_rfl) (by kernel_rfl) (by go_grown) ?_
          intro hgc hbx
          repeat (go_big_quiet_step ((first | (go_at_call 6; exact Grew.call (hH.out _)) | (go_at_call 5; exact Grew.call_same (hWt.out _)))))
          refine wpQuiet_nil ?_
          intro wz hb_wz hw_wz hs_wz
          clear hgc hbx
          go_wp2
          go_ret
          exact ⟨rfl, hw_wz⟩
end Go.Proofs
