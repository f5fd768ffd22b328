import Derived.Test.YtmnjoamkaapjcaaGreatMg27
import Derived.Test.YtmnjoamkaapjcaaGreatMg9
import Derived.Test.YtmnjoamkaapjcaaGreatMg2
set_option linter.unusedSimpArgs false
set_option linter.unusedVariables false
namespace Go.Proofs
open Go.RowKit

set_option maxRecDepth 100000 in
set_option maxHeartbeats 4000000 in
/-- The reference's book without some gaugings. -/
theorem refWithout_any (l0 l1 : Int) (A A2 : Option Addr) (rs : List Rd) (ms : List Mv) (c c2 : Nat) (B : Option Addr) (l : List Int) (cl : Nat) (w : World)
    (hn : rs.length ≤ 1000) (hm : ms.length ≤ 1000) (hl : l.length ≤ 1000) (hat : At 4 Rd.cs w A rs) (hat2 : At 4 Mv.cs w A2 ms) (hatl : At 1 Ic w B l) :
    Calls Tryz.prog 16 #[.agg #[.int .i64 l0, .int .i64 l1, .slice A rs.length c, .slice A2 ms.length c2], .slice B l.length cl] w fun e w' =>
      CopyGot l0 l1 (wo rs l) ms e w' ∧ Below w.heap.size w w' := by
  have hCpy := Lib.hid fun W (hb : Below w.heap.size w W) => copyBook_any l0 l1 A A2 rs ms c c2 W hn hm (hat.below hb) (hat2.below hb)
  obtain ⟨n, hn0⟩ : ∃ n, rs.length = n := ⟨_, rfl⟩
  have hn' := Lib.hid hn0
  have hat' := Lib.hid hat
  have hCo := Lib.hid fun i W (hb : Below w.heap.size w W) => has_any B l cl i W (by omega) (hatl.below hb)
  have hm' := Lib.hid hm
  rw [hn0] at hn hCpy ⊢
  clear hat hat2 hatl hn0 hm
  go_enter Tryz.func16, Tryz.ntmps16
  go_wp2_with (first | (go_at_call 7; refine (hCpy.out _ ?_).mono ?_; (· go_grown); rintro e w1 ⟨⟨A5, c5, A6, c6, rfl, h5, h6⟩, hb⟩; have hbw := via (by go_grown : Below w.heap.size w _) hb; have hsw := hbw.size; have B0 : w1.heap[w.heap.size]? = some (.cells #[.int .i64 l0, .int .i64 l1, .slice A n c, .slice A2 ms.length c2] 27 (0, 0)) := bk_keep hb (by (repeat (first | assumption | (refine bk_new _ _ ?_; (simp; done)) | refine bk_drew ?_ | refine bk_alloc ?_ _ | refine bk_set ?_ (by simp <;> omega) _))); have B1 : w1.heap[w.heap.size + 1]? = some (.cells #[.int .i64 0, .int .i64 0, .slice none 0 0, .slice none 0 0] 27 (0, 0)) := bk_keep hb (by (repeat (first | assumption | (refine bk_new _ _ ?_; (simp; done)) | refine bk_drew ?_ | refine bk_alloc ?_ _ | refine bk_set ?_ (by simp <;> omega) _)))))
  refine wp_world ?_
  intro wG hW_wG
  have hb_wG : Below w.heap.size w wG := by rw [hW_wG]; go_grown
  obtain ⟨X, hX⟩ : ∃ X, w1.heap.size = X := ⟨_, rfl⟩
  have hXw : w.heap.size + 1 < X := by rw [← hX]; exact bk_size B1
  have hbG : Below w1.heap.size w1 wG := by rw [hW_wG]; go_grown
  have D0 := bk_keep hbG B0
  have D1 := bk_keep hbG B1
  have hfresh : 0 < ms.length → ∀ p, A6 = some p → p.block ≠ X := by
    intro hpos p hp e
    obtain ⟨y, hy⟩ : ∃ y, ms[0]? = some y := ⟨_, List.getElem?_eq_getElem hpos⟩
    obtain ⟨b, o, hA, hb, -⟩ := h6 0 y hy
    rw [hp] at hA
    injection hA with hA
    subst hA
    dsimp only at e
    omega
  have hfresh2 : 0 < ms.length → ∀ p, A6 = some p → p.block ≠ w.heap.size + 1 := by
    rintro hpos p rfl e
    obtain ⟨y, hy⟩ : ∃ y, ms[0]? = some y := ⟨_, List.getElem?_eq_getElem hpos⟩
    obtain ⟨b, o, hA, hb, hc⟩ := h6 0 y hy
    injection hA with hA
    subst hA
    dsimp only at e
    subst e
    have h1 := hc 1 _ rfl
    rw [bk_cell B1] at h1
    match o, h1 with
    | 0, h1 => simp at h1
    | 1, h1 => simp at h1
    | 2, h1 => simp at h1
    | j + 3, h1 =>
      rw [Array.getElem?_eq_none (by simp)] at h1
      cases h1
  have hatG' := Lib.hid (h6.below hbG)
  have hfresh' := Lib.hid hfresh
  have hfresh2' := Lib.hid hfresh2
  have D2 : wG.heap[X]? = some (.cells #[.int .i64 l0, .int .i64 l1, .slice none 0 0, .slice A6 ms.length c6] 27 (0, 0)) := by rw [hW_wG]; exact bk_new _ _ hX.symm
  have hGs := bk_size D2
  rw [hX]
  clear hW_wG h5 h6 hfresh hfresh2 hbG B0 B1 hX hbw hsw hb
  obtain ⟨j0, y0, hj, hy0, hy1, hys, hy2⟩ := info_of (t := 62) (n := 4) (b := 40) (by kernel_rfl)
  go_loopw [6] (fun i wr => ∃ (k : Nat) (Av : Option Addr) (cv : Nat), k ≤ n ∧ i = .int .i64 k ∧ wr.ownsRow wG.heap.size 62 4 (.slice Av (woTo rs l k).length cv) (woTo rs l k).length ((woTo rs l k).flatMap Rd.cs) ∧ Below w.heap.size w wr ∧ Gr X wG wr ∧ wr.heap[X]? = some (.cells #[.int .i64 l0, .int .i64 l1, .slice Av (woTo rs l k).length cv, .slice A6 ms.length c6] 27 (0, 0))) (fun i _ => n - (intOf i).toNat)
  case atStart => exact ⟨0, none, 0, by omega, rfl, World.ownsRow_nil _ _ _ _, hb_wG, .refl _ _, D2⟩
  case round =>
    clear D2
    obtain ⟨k, Av, cv, hk, rfl, hown, hbr, hgr, D2⟩ := hrel
    have E0 : wr.heap[w.heap.size]? = some (.cells #[.int .i64 l0, .int .i64 l1, .slice A n c, .slice A2 ms.length c2] 27 (0, 0)) := (hgr.2 _ (bk_size D0) (by omega)).trans D0
    have E1 : wr.heap[w.heap.size + 1]? = some (.cells #[.int .i64 0, .int .i64 0, .slice none 0 0, .slice none 0 0] 27 (0, 0)) := (hgr.2 _ (bk_size D1) (by omega)).trans D1
    have C0 := bk4 E0
    have C2 := bk4 D2
    by_cases hlt : k < n
    · obtain ⟨x, hx⟩ : ∃ x, rs[k]? = some x := ⟨_, List.getElem?_eq_getElem (by rw [hn'.out]; exact hlt)⟩
      obtain ⟨b, o, rfl, hbl, hcc⟩ := (hat'.out) k x hx
      have hx' := Lib.hid hx
      have hlen := wo_len rs l k
      have hsn := wo_snoc (l := l) hx
      obtain ⟨xc, xd, xl, xh⟩ := x
      have hc' := Lib.hid hcc
      have hkI : (k : Int) < (n : Int) := by omega
      have hCk := Lib.hid fun W hb => hCo.out (k : Int) W hb
      have hsn' := Lib.hid hsn
      have hown' := Lib.hid hown
      clear hcc hx hsn hown
      cases hq : l.contains (k : Int) with
      | true =>
        rw [hq] at hCk
        have hcon := Lib.hid hq
        clear hq
        go_wp2_with (go_at_call 38; refine (hCk.out _ ?_).mono ?_; (· go_grown); rintro e w' ⟨rfl, rfl⟩)
        go_roundw
        case rel =>
          have e : woTo rs l (k + 1) = woTo rs l k := by rw [hsn'.out, hcon.out, if_pos rfl, List.append_nil]
          refine ⟨k + 1, Av, cv, by omega, by go_num, ?_, hbr, hgr, ?_⟩
          · rw [e]; exact hown'.out
          · rw [e]; exact D2
        case measure => simp [intOf]; omega
      | false =>
        rw [hq] at hCk
        have hcon := Lib.hid hq
        clear hq
        go_wp2_with (go_at_call 38; refine (hCk.out _ ?_).mono ?_; (· go_grown); rintro e w' ⟨rfl, rfl⟩)
        obtain ⟨N, hN⟩ : ∃ N, (woTo rs l k).length = N := ⟨_, rfl⟩
        have e : woTo rs l (k + 1) = woTo rs l k ++ [⟨xc, xd, xl, xh⟩] := by rw [hsn'.out, hcon.out]; rfl
        have hel : (woTo rs l (k + 1)).length = N + 1 := by rw [e]; simp [hN]
        have hfl : (woTo rs l (k + 1)).flatMap Rd.cs = (woTo rs l k).flatMap Rd.cs ++ Rd.cs ⟨xc, xd, xl, xh⟩ := by rw [e, List.flatMap_append]; simp
        have hel' := Lib.hid hel
        have hfl' := Lib.hid hfl
        rw [hN] at D2 C2 hlen hown'
        have hNs : N ≤ 1000 := by omega
        clear hN e hel hfl hsn'
        apply region_app w (fun x => Below w.heap.size w x ∧ Gr X wG x) 1 7 8 10 X 2 #[.int .i64 l0, .int .i64 l1, .slice Av N cv, .slice A6 ms.length c6] 27 (.cells #[.string xc, .int .i64 xd, .int .i64 xl, .int .i64 xh] 62 (0, 0)) wG.heap.size 62 4 (.slice Av N cv) N ((woTo rs l k).flatMap Rd.cs) (Rd.cs ⟨xc, xd, xl, xh⟩)
        case hm => kernel_rfl
        case hB => kernel_rfl
        case hB' => intro g; kernel_rfl
        case hS => kernel_rfl
        case hN => kernel_rfl
        case hne => decide
        case hd => kernel_rfl
        case hd2 => kernel_rfl
        case hC0 => exact ⟨hbr, hgr⟩
        case hCs => exact fun x x' ⟨h1, h2⟩ hb => ⟨via h1 hb, h2.trans (.of_below hb)⟩
        case hCw => exact fun x h => h.1
        case hCg =>
          intro x x' row ⟨h1, h2⟩ hg hr
          exact ⟨h1.grown hg (by have := h1.size; omega) (fun r e => by have := hr r e; have := hb_wG.size; omega), Gr.grown h2 hg hr⟩
        case hCt =>
          intro x u ⟨h1, h2⟩
          exact ⟨h1.setCell (by dsimp only; omega) u, h2.trans (.set _ _ _ _)⟩
        case hbase => omega
        case hbs => exact .inr hgr.1
        case hblk => exact D2
        case hown => exact hown'.out
        case hCz => exact fun x h => h.2.1
        case hq =>
          intro gg u ⟨k1, k2⟩ hgc hbx hbX
          have F0 : u.heap[w.heap.size]? = some (.cells #[.int .i64 l0, .int .i64 l1, .slice (some ⟨b, o, none⟩) n c, .slice A2 ms.length c2] 27 (0, 0)) := (k2.2 _ (bk_size D0) (by omega)).trans D0
          have C0 := bk4 F0
          have hub : b < u.heap.size := by have := k1.size; omega
          have u0 := (k1.cell (p := ⟨b, o + k * 4 + 0, none⟩) hbl).trans (hc'.out 0 _ rfl)
          have u1 := (k1.cell (p := ⟨b, o + k * 4 + 1, none⟩) hbl).trans (hc'.out 1 _ rfl)
          have u2 := (k1.cell (p := ⟨b, o + k * 4 + 2, none⟩) hbl).trans (hc'.out 2 _ rfl)
          have u3 := (k1.cell (p := ⟨b, o + k * 4 + 3, none⟩) hbl).trans (hc'.out 3 _ rfl)
          simp only [Nat.add_zero] at u0
          dsimp only at u0 u1 u2 u3
          simp only [mixL, mkA, rowG, yieldsC, List.contains_cons, List.contains_nil, Nat.reduceAdd, Nat.reduceBEq, Nat.reduceEqDiff, Nat.zero_add, Bool.or_false, Bool.or_true, Bool.false_or, Bool.true_or, Bool.false_eq_true, if_true, if_false, Bool.or_self]
          repeat (go_big_quiet_step (fail))
          exact wpQuiet_nil rfl
        case hind => intro j hj; simp only [List.mem_cons, List.not_mem_nil, or_false] at hj; rcases hj with rfl | rfl | rfl | rfl <;> (intro g h; kernel_rfl)
        case hr =>
          intro o ho gg x hC hb
          simp only [List.getElem?_cons_succ, List.getElem?_cons_zero, Option.some.injEq] at ho
          subst ho
          exact run_load_slice rfl (by kernel_rfl) (by kernel_rfl) (bk4 hb).2.2.1
        case hm1 =>
          intro o ho gg x
          simp only [List.getElem?_cons_succ, List.getElem?_cons_zero, Option.some.injEq] at ho
          subst ho
          kernel_rfl
        case hq1 =>
          intro o ho gg x hC hown hb
          simp only [List.getElem?_cons_succ, List.getElem?_cons_zero, Option.some.injEq] at ho
          subst ho
          exact exec_append (.tmp 22) (.tmp 28) 24 62 j0 y0 _ 4 40 wG.heap.size N _ _ _ 62 rfl (by kernel_rfl) (by kernel_rfl) Tryz.underlying24 hj hy0 hy1 hy2 hys (by decide) hown hb rfl (by intro u hu; simp [Rd.cs] at hu; rcases hu with rfl | rfl | rfl | rfl <;> rfl) (by unfold maxLen; omega) (by omega) hC.2.1
        case hk1 =>
          intro o ho gg x hb
          simp only [List.getElem?_cons_succ, List.getElem?_cons_zero, Option.some.injEq] at ho
          subst ho
          have C2 := bk4 hb
          exact run_store_slice rfl (by kernel_rfl) (by kernel_rfl) (by kernel_rfl) C2.2.2.1 (bk_free hb 2)
        case hend =>
          intro gg x ⟨h1, h2⟩ hb hown
          have hown1 := Lib.hid hown
          have hb1 := Lib.hid hb
          clear hown hb E0 E1 D2 C0 C2 hown'
          go_wp2
          go_roundw
          case rel => exact ⟨k + 1, _, _, by omega, by go_num, by rw [hel'.out, hfl'.out]; exact hown1.out, h1, h2, by rw [hel'.out]; exact hb1.out⟩
          case measure => simp [intOf]; omega
    · have hkn : k = n := by omega
      have hkI : ¬ (k : Int) < (n : Int) := by omega
      obtain ⟨A3, c3, e3, hat3⟩ := at_of_owns (cs := Rd.cs) (sz := 4) (fun _ => rfl) hown
      injection e3 with e31 _ e33
      subst e31 e33
      have ew : woTo rs l k = wo rs l := by unfold wo; rw [hkn, hn'.out]
      rw [ew] at hat3 C2 D2 hown
      have hat3' := Lib.hid hat3
      have hat4' := Lib.hid (hgr.at hatG'.out hfresh'.out)
      have hfr : Hid (0 < (wo rs l).length → ∀ p, Av = some p → wG.heap.size ≤ p.block) := by
        rintro hp p rfl
        rcases hown.2 with ⟨h, -⟩ | ⟨g, cap, cur, h, h2, -⟩
        · cases h
        · injection h with h
          injection h with h
          subst h
          exact h2
      clear hat3 hown hgr D1 D0 E0 hkn
      have C1 := bk4 E1
      have hsA := bk_size E1
      go_wp2
      refine bodyPost_ret (v := .agg #[.int .i64 l0, .int .i64 l1, .slice Av (wo rs l).length cv, .slice A6 ms.length c6]) ?_ rfl ⟨⟨Av, cv, A6, c6, rfl, ?_, ?_⟩, by go_grown⟩
      · simp [results, Tryz.results16, go_sem, C1]
      · exact Gr.at (B := w.heap.size + 1) ((((Gr.set _ _ _ _).trans (.set _ _ _ _)).trans (.set _ _ _ _)).trans (.set _ _ _ _)) hat3'.out (fun hp p e => by
          obtain ⟨y, hy⟩ : ∃ y, (wo rs l)[0]? = some y := ⟨_, List.getElem?_eq_getElem hp⟩
          have := hfr.out hp p e
          omega)
      · exact Gr.at (B := w.heap.size + 1) ((((Gr.set _ _ _ _).trans (.set _ _ _ _)).trans (.set _ _ _ _)).trans (.set _ _ _ _)) hat4'.out hfresh2'.out
end Go.Proofs

set_option linter.unusedSimpArgs false
set_option linter.unusedVariables false
namespace Go.Proofs
open Go.RowKit

set_option maxRecDepth 100000 in
set_option maxHeartbeats 1000000 in
/-- The reference's error of numbers of gaugings. -/
theorem listErr_any (l0 l1 : Int) (A A2 : Option Addr) (n c n2 c2 : Nat) (B : Option Addr) (l : List Int) (cl : Nat) (w : World) (hn : n ≤ 1000) (hl : l.length ≤ 1000) (hat : At 1 Ic w B l) :
    Calls Tryz.prog 15 #[.agg #[.int .i64 l0, .int .i64 l1, .slice A n c, .slice A2 n2 c2], .slice B l.length cl] w fun e w' => e = .returned (.int .i64 (lstE n none l)) ∧ Below w.heap.size w w' := by
  obtain ⟨R, hR⟩ : ∃ R, lstE n none l = R := ⟨_, rfl⟩
  have hR' := Lib.hid hR
  rw [hR]
  clear hR
  have hat' := Lib.hid hat
  clear hat
  have hns : IntKind.i64.wrap ((n : Int) - 1) = (n : Int) - 1 := IntWalk.i64_in _ (by omega)
  go_enter Tryz.func15, Tryz.ntmps15
  go_wp2
  go_loopw [5] (fun i wr => ∃ k : Nat, k ≤ l.length ∧ i = .int .i64 k ∧ Hid (LstAt n l k) ∧ Below w.heap.size w wr ∧ wr.heap[w.heap.size]? = some (.cells #[.int .i64 l0, .int .i64 l1, .slice A n c, .slice A2 n2 c2] 27 (0, 0))) (fun i _ => l.length - (intOf i).toNat)
  case atStart => exact ⟨0, Nat.zero_le _, rfl, rfl, by go_grown, bk_new _ _ rfl⟩
  case round =>
    obtain ⟨k, hk, rfl, hrl, hbw, D0⟩ := hrel
    have C0 := bk4 D0
    by_cases hlt : k < l.length
    · obtain ⟨x, hx⟩ : ∃ x, l[k]? = some x := ⟨_, List.getElem?_eq_getElem hlt⟩
      obtain ⟨b, o, rfl, hbl, hc⟩ := (hat'.out.below hbw) k x hx
      have c0 := hc 0 _ rfl
      simp only [Nat.add_zero, Nat.mul_one] at c0
      have hkI : (k : Int) < (l.length : Int) := by omega
      have hx' := Lib.hid hx
      clear hc hx
      obtain ⟨q1, hq1⟩ : ∃ q, within x 0 ((n : Int) - 1) = q := ⟨_, rfl⟩
      have hWi := Lib.hid fun W => refWithin_any x 0 ((n : Int) - 1) W
      rw [hq1] at hWi
      have hgo := Lib.hid fun (o : Bool) (ho : okUp (bfr l k) x = o) (hz : firstE [unl q1 6, unl o 9] = 0) => lst_go hrl.out hx'.out ho (by rw [hq1]; exact hz)
      have hst := Lib.hid fun (o : Bool) (ho : okUp (bfr l k) x = o) (hz : ¬ firstE [unl q1 6, unl o 9] = 0) => lst_stop hrl.out hx'.out ho (by rw [hq1]; exact hz)
      rw [hq1] at hst
      clear hq1
      go_wp2
      refine region_all wr (by kernel_rfl) (by kernel_rfl) (by go_grown) ?_
      intro hgc hbx
      repeat (go_big_quiet_step ((go_at_call 40; exact Grew.call_same (hWi.out _))))
      refine wpQuiet_nil ?_
      intro w3 hb3 hbw3 hsz3
      clear hgc hbx
      have hbw4 := via hbw hb3
      have D3 := bk_keep hb3 D0
      have C3 := bk4 D3
      replace c0 := cell_below0 c0 hb3
      replace hbl := Nat.lt_of_lt_of_le hbl hb3.size
      cases q1
      case false =>
        have hv : R = 6 := hR'.out.symm.trans (hst.out _ rfl (by cases okUp (bfr l k) x <;> decide))
        subst hv
        go_wp2
        go_ret
        exact ⟨rfl, hbw4⟩
      case true =>
        by_cases hk0 : k = 0
        · have hb0 : okUp (bfr l k) x = true := by rw [hk0]; rfl
          have hnx' := Lib.hid (hgo.out true hb0 (by decide))
          have hkG : decide (0 < k) = false := decide_eq_false (by omega)
          clear hb0 hk0
          go_wp2
          refine region_all w3 (by kernel_rfl) (by kernel_rfl) (by go_grown) ?_
          intro hgc hbx
          repeat (go_big_quiet_step (fail))
          refine wpQuiet_nil ?_
          intro w5 hb5 hbw5 hsz5
          clear hgc hbx
          have hbw6 := via hbw4 hb5
          have D5 := bk_keep hb5 D3
          go_wp2
          go_roundw
          case rel => exact ⟨k + 1, by omega, by go_num, hnx'.out, hbw6, D5⟩
          case measure => simp [intOf]; omega
        · have hkG : decide (0 < k) = true := decide_eq_true (by omega)
          obtain ⟨q, hq⟩ : ∃ q, k = q + 1 := ⟨k - 1, by omega⟩
          have hkq : k - 1 = q := by omega
          have hql : q < l.length := by omega
          obtain ⟨y, hy⟩ : ∃ y, l[q]? = some y := ⟨_, List.getElem?_eq_getElem hql⟩
          obtain ⟨b', o', eA, -, hc'⟩ := (hat'.out.below hbw4) q y hy
          simp only [Option.some.injEq, Addr.mk.injEq, and_true] at eA
          obtain ⟨rfl, rfl⟩ := eA
          have c1 := hc' 0 _ rfl
          simp only [Nat.add_zero, Nat.mul_one] at c1
          have hks : (k : Int) - 1 = (q : Int) := by omega
          have hkJ : (q : Int) < (l.length : Int) := by omega
          obtain ⟨q2, hq2⟩ : ∃ q, decide (y < x) = q := ⟨_, rfl⟩
          have hb0 : okUp (bfr l k) x = q2 := by
            unfold bfr
            rw [if_neg hk0, hkq, hy]
            exact hq2
          clear hc' hy hkq hq hk0
          cases q2
          case true =>
            have hnx' := Lib.hid (hgo.out true hb0 (by decide))
            have hle : ¬ x ≤ y := by have := of_decide_eq_true hq2; omega
            clear hb0 hq2
            go_wp2
            refine region_all w3 (by kernel_rfl) (by kernel_rfl) (by go_grown) ?_
            intro hgc hbx
            repeat (go_big_quiet_step (fail))
            refine wpQuiet_nil ?_
            intro w5 hb5 hbw5 hsz5
            clear hgc hbx
            have hbw6 := via hbw4 hb5
            have D5 := bk_keep hb5 D3
            go_wp2
            go_roundw
            case rel => exact ⟨k + 1, by omega, by go_num, hnx'.out, hbw6, D5⟩
            case measure => simp [intOf]; omega
          case false =>
            have hv : R = 9 := hR'.out.symm.trans (hst.out false hb0 (by decide))
            subst hv
            have hle : x ≤ y := by have := of_decide_eq_false hq2; omega
            clear hb0 hq2
            go_wp2
            refine region_all w3 (by kernel_rfl) (by kernel_rfl) (by go_grown) ?_
            intro hgc hbx
            repeat (go_big_quiet_step (fail))
            refine wpQuiet_nil ?_
            intro w5 hb5 hbw5 hsz5
            clear hgc hbx
            have hbw6 := via hbw4 hb5
            have D5 := bk_keep hb5 D3
            go_wp2
            go_ret
            exact ⟨rfl, hbw6⟩
    · have hkk : k = l.length := by omega
      have hF : R = 0 := by
        rw [← hR'.out]
        have := hrl.out
        unfold LstAt at this
        rw [hkk, List.drop_length] at this
        exact this
      subst hF
      have hlI : ¬ (k : Int) < (l.length : Int) := by omega
      clear hkk
      go_wp2
      go_ret
      exact ⟨rfl, hbw⟩
end Go.Proofs
