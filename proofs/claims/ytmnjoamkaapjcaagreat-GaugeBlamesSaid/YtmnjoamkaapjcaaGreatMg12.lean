import Derived.Test.YtmnjoamkaapjcaaGreatMg11
import Derived.Test.YtmnjoamkaapjcaaGreatMg5
import Derived.Test.YtmnjoamkaapjcaaGreatMg7
set_option linter.unusedSimpArgs false
set_option linter.unusedVariables false
namespace Go.Proofs
open Go.RowKit

theorem bookE_eq (l0 l1 : Int) (n m : Nat) : bookE l0 l1 n m = if rangeE l0 l1 100000 = 0 then unl (decide ((n : Int) ≤ 40) && decide ((m : Int) ≤ 60)) 8 else rangeE l0 l1 100000 := by
  unfold bookE rangeE
  cases within l0 0 100000 <;> cases within l1 0 100000 <;> cases decide (l0 ≤ l1) <;> simp [firstE, unl]
theorem firstE_ok {o : Bool} {E : Int} (h1 : E = 0) (h2 : o = true) : firstE [E, unl o 9] = 0 := by subst h1 h2; rfl
theorem firstE_day {E : Int} (h1 : E = 0) : firstE [E, unl false 9] = 9 := by subst h1; rfl
theorem firstE_err {o : Bool} {E : Int} (h1 : E ≠ 0) : firstE [E, unl o 9] = E := by simp [firstE, h1]

set_option maxRecDepth 100000 in
set_option maxHeartbeats 4000000 in
theorem refCheckBook_any (l0 l1 : Int) (A A2 : Option Addr) (rs : List Rd) (ms : List Mv) (c c2 : Nat) (w : World)
    (hs : ∀ x ∈ rs, x.c.size ≤ 9223372036854775807) (hat : At 4 Rd.cs w A rs)
    (hs2 : ∀ x ∈ ms, x.f.size ≤ 9223372036854775807 ∧ x.t.size ≤ 9223372036854775807) (hat2 : At 4 Mv.cs w A2 ms) :
    Calls Tryz.prog 37 #[.agg #[.int .i64 l0, .int .i64 l1, .slice A rs.length c, .slice A2 ms.length c2]] w fun e w' =>
      e = .returned (bval (checkB l0 l1 rs ms)) ∧ Below w.heap.size w w' := by
  obtain ⟨n, hn⟩ : ∃ n, rs.length = n := ⟨_, rfl⟩
  obtain ⟨m, hm⟩ : ∃ n, ms.length = n := ⟨_, rfl⟩
  have hn' := Lib.hid hn
  have hm' := Lib.hid hm
  have hR := Lib.hid fun W => refRangeErr_any l0 l1 100000 W
  have hbk := bookE_eq l0 l1 n m
  unfold checkB
  rw [hn, hm]
  by_cases hz : rangeE l0 l1 100000 = 0
  case neg =>
    rw [if_neg hz] at hbk
    rw [hbk, if_neg hz]
    generalize rangeE l0 l1 100000 = E at *
    have z2 : (E != 0) = true := by simpa using hz
    unfold bval
    dsimp only
    clear hz hbk hn hm hs hs2 hat hat2
    go_enter Tryz.func37, Tryz.ntmps37
    go_wp2_with (first | (go_at_call 62; refine (hR.out _).mono ?_; rintro e w1 ⟨rfl, hb⟩; have hbw := via (by go_grown : Below w.heap.size w _) hb; have B0 : w1.heap[w.heap.size]? = some (.cells #[.int .i64 l0, .int .i64 l1, .slice A n c, .slice A2 m c2] 27 (0, 0)) := bk_keep hb (by (repeat (first | assumption | (refine bk_new _ _ ?_; (simp; done)) | refine bk_drew ?_ | refine bk_alloc ?_ _ | refine bk_set ?_ (by simp <;> omega) _))); have B1 : w1.heap[w.heap.size + 1]? = some (.cells #[.int .i64 0, .int .i64 0] 82 (0, 0)) := bk_keep hb (by (repeat (first | assumption | (refine bk_new _ _ ?_; (simp; done)) | refine bk_drew ?_ | refine bk_alloc ?_ _ | refine bk_set ?_ (by simp <;> omega) _))); have C0 := bk4 B0; have C1 := bk2 B1))
    refine bodyPost_ret (v := .tuple #[.agg #[.int .i64 0, .int .i64 0], .int .i64 E]) ?_ rfl ⟨rfl, ?_⟩
    · simp [results, Tryz.results37, go_sem, C1]
    · go_grown
  rw [if_pos hz] at hbk
  rw [hz] at hR
  clear hz
  by_cases h40 : n ≤ 40
  case neg =>
    have i40 : 40 < (n : Int) := by omega
    rw [decide_eq_false (by omega : ¬ (n : Int) ≤ 40)] at hbk
    rw [hbk, if_neg (by simp [unl])]
    have d40 : decide (40 < (n : Int)) = true := decide_eq_true i40
    unfold bval
    dsimp only
    clear hbk hn hm hs hs2 hat hat2
    go_enter Tryz.func37, Tryz.ntmps37
    go_wp2_with (first | (go_at_call 62; refine (hR.out _).mono ?_; rintro e w1 ⟨rfl, hb⟩; have hbw := via (by go_grown : Below w.heap.size w _) hb; have B0 : w1.heap[w.heap.size]? = some (.cells #[.int .i64 l0, .int .i64 l1, .slice A n c, .slice A2 m c2] 27 (0, 0)) := bk_keep hb (by (repeat (first | assumption | (refine bk_new _ _ ?_; (simp; done)) | refine bk_drew ?_ | refine bk_alloc ?_ _ | refine bk_set ?_ (by simp <;> omega) _))); have B1 : w1.heap[w.heap.size + 1]? = some (.cells #[.int .i64 0, .int .i64 0] 82 (0, 0)) := bk_keep hb (by (repeat (first | assumption | (refine bk_new _ _ ?_; (simp; done)) | refine bk_drew ?_ | refine bk_alloc ?_ _ | refine bk_set ?_ (by simp <;> omega) _))); have C0 := bk4 B0; have C1 := bk2 B1))
    refine bodyPost_ret (v := .tuple #[.agg #[.int .i64 0, .int .i64 0], .int .i64 8]) ?_ rfl ⟨rfl, ?_⟩
    · simp [results, Tryz.results37, go_sem, C1]
    · go_grown
  have d40 : decide (40 < (n : Int)) = false := decide_eq_false (by omega)
  by_cases h60 : m ≤ 60
  case neg =>
    have i60 : 60 < (m : Int) := by omega
    rw [decide_eq_true (by omega : (n : Int) ≤ 40), decide_eq_false (by omega : ¬ (m : Int) ≤ 60)] at hbk
    rw [hbk, if_neg (by simp [unl])]
    unfold bval
    dsimp only
    clear hbk hn hm hs hs2 hat hat2
    go_enter Tryz.func37, Tryz.ntmps37
    go_wp2_with (first | (go_at_call 62; refine (hR.out _).mono ?_; rintro e w1 ⟨rfl, hb⟩; have hbw := via (by go_grown : Below w.heap.size w _) hb; have B0 : w1.heap[w.heap.size]? = some (.cells #[.int .i64 l0, .int .i64 l1, .slice A n c, .slice A2 m c2] 27 (0, 0)) := bk_keep hb (by (repeat (first | assumption | (refine bk_new _ _ ?_; (simp; done)) | refine bk_drew ?_ | refine bk_alloc ?_ _ | refine bk_set ?_ (by simp <;> omega) _))); have B1 : w1.heap[w.heap.size + 1]? = some (.cells #[.int .i64 0, .int .i64 0] 82 (0, 0)) := bk_keep hb (by (repeat (first | assumption | (refine bk_new _ _ ?_; (simp; done)) | refine bk_drew ?_ | refine bk_alloc ?_ _ | refine bk_set ?_ (by simp <;> omega) _))); have C0 := bk4 B0; have C1 := bk2 B1))
    refine bodyPost_ret (v := .tuple #[.agg #[.int .i64 0, .int .i64 0], .int .i64 8]) ?_ rfl ⟨rfl, ?_⟩
    · simp [results, Tryz.results37, go_sem, C1]
    · go_grown
  have i60 : ¬ 60 < (m : Int) := by omega
  rw [decide_eq_true (by omega : (n : Int) ≤ 40), decide_eq_true (by omega : (m : Int) ≤ 60)] at hbk
  rw [hbk, if_pos (by rfl)]
  have hs' := Lib.hid hs
  have hs2' := Lib.hid hs2
  have hat' := Lib.hid hat
  have hat2' := Lib.hid hat2
  obtain ⟨D, hD⟩ : ∃ D, datedE rdErr Rd.d rs none 0 = D := ⟨_, rfl⟩
  obtain ⟨M, hM⟩ : ∃ D, datedE moveE Mv.d ms none 0 = D := ⟨_, rfl⟩
  rw [hD, hM]
  have hD' := Lib.hid hD
  have hM' := Lib.hid hM
  obtain ⟨D1, D2⟩ := D
  obtain ⟨M1, M2⟩ := M
  dsimp only
  obtain ⟨V, hV⟩ : ∃ V, (if D2 = 0 then if M2 = 0 then (((0 : Int), (0 : Int)), (0 : Int)) else ((2, M1), M2) else ((1, D1), D2)) = V := ⟨_, rfl⟩
  rw [hV]
  have hV' := Lib.hid hV
  clear hV hD hM hbk hn hm hs hs2 hat hat2
  obtain ⟨⟨V1, V2⟩, V3⟩ := V
  unfold bval
  dsimp only
  go_enter Tryz.func37, Tryz.ntmps37
  go_wp2_with (first | (go_at_call 62; refine (hR.out _).mono ?_; rintro e w1 ⟨rfl, hb⟩; have hbw := via (by go_grown : Below w.heap.size w _) hb; have B0 : w1.heap[w.heap.size]? = some (.cells #[.int .i64 l0, .int .i64 l1, .slice A n c, .slice A2 m c2] 27 (0, 0)) := bk_keep hb (by (repeat (first | assumption | (refine bk_new _ _ ?_; (simp; done)) | refine bk_drew ?_ | refine bk_alloc ?_ _ | refine bk_set ?_ (by simp <;> omega) _))); have B1 : w1.heap[w.heap.size + 1]? = some (.cells #[.int .i64 0, .int .i64 0] 82 (0, 0)) := bk_keep hb (by (repeat (first | assumption | (refine bk_new _ _ ?_; (simp; done)) | refine bk_drew ?_ | refine bk_alloc ?_ _ | refine bk_set ?_ (by simp <;> omega) _))); have C0 := bk4 B0; have C1 := bk2 B1))
  go_loopw [5] (fun i wr => ∃ k : Nat, k ≤ n ∧ i = .int .i64 k ∧ Hid (DatedAt rdErr Rd.d rs k) ∧ Below w.heap.size w wr ∧ wr.heap[w.heap.size]? = some (.cells #[.int .i64 l0, .int .i64 l1, .slice A n c, .slice A2 m c2] 27 (0, 0)) ∧ wr.heap[w.heap.size + 1]? = some (.cells #[.int .i64 0, .int .i64 0] 82 (0, 0))) (fun i _ => n - (intOf i).toNat)
  case atStart => exact ⟨0, Nat.zero_le _, rfl, rfl, hbw, B0, B1⟩
  case round =>
    obtain ⟨k, hk, rfl, hct, hbw, B0, B1⟩ := hrel
    have C0 := bk4 B0
    have C1 := bk2 B1
    by_cases hlt : k < n
    · obtain ⟨x, hx⟩ : ∃ x, (rs)[k]? = some x := ⟨_, List.getElem?_eq_getElem (by rw [(hn').out]; exact hlt)⟩
      have hatr := (hat').out.below hbw
      obtain ⟨b, o, hA, hbl, hc⟩ := hatr k x hx
      subst hA
      have hE := Lib.hid fun W => refReadingErr_any x.c x.d x.lo x.hi W (hs'.out x (List.mem_of_getElem? hx))
      have hx' := Lib.hid hx
      obtain ⟨xc, xd, xl, xh⟩ := x
      have c0 := hc 0 _ rfl
      have c1 := hc 1 _ rfl
      have c2 := hc 2 _ rfl
      have c3 := hc 3 _ rfl
      dsimp only at c0 c1 c2 c3 hE
      simp only [Nat.add_zero] at c0
      obtain ⟨E, hEv⟩ : ∃ E, rdErr ⟨xc, xd, xl, xh⟩ = E := ⟨_, rfl⟩
      have hEv' : Hid (rdErr ⟨xc, xd, xl, xh⟩ = E) := hEv
      (have hEr : gaugingE xc.data.toList xd xl xh = E := hEv; rw [hEr] at hE; clear hEr)
      clear hx hc hEv
      have hkn : (k : Int) < (n : Int) := by omega
      have hk0' : (0 : Int) ≤ (k : Int) := by omega
      by_cases hz : E = 0
      case neg =>
        have hst := dated_stop (o := okDay (bef Rd.d rs k) (Rd.d ⟨xc, xd, xl, xh⟩)) hct.out hx' rfl hEv' (by unfold Hid; rw [firstE_err hz]; exact hz)
        rw [firstE_err hz, (hD').out] at hst
        obtain ⟨rfl, rfl⟩ := Prod.mk.inj hst
        have hv := hV'.out
        simp only [hz, if_true, if_false, Prod.mk.injEq] at hv
        obtain ⟨⟨rfl, rfl⟩, rfl⟩ := hv
        have z1 : (D2 == 0) = false := by simpa using hz
        have z2 : (D2 != 0) = true := by simpa using hz
        clear hz hst
        go_wp2_with (go_at_call 63; refine (hE.out _).mono ?_; rintro e w2 ⟨rfl, hb⟩; have hbw := via hbw hb; replace B0 := bk_keep hb B0; replace B1 := bk_keep hb B1; replace C0 := bk4 B0; replace C1 := bk2 B1)
        refine region_all w (by kernel_rfl) (by kernel_rfl) (by go_grown) ?_
        intro hgc hbx
        repeat (go_big_quiet_step (fail))
        refine wpQuiet_nil ?_
        intro w3 hb3 hbw3 hsz3
        clear hgc hbx
        replace B0 := bk_keep hb3 B0
        replace B1 := bk_keep hb3 B1
        replace C0 := bk4 B0
        replace C1 := bk2 B1
        go_wp2
        refine bodyPost_ret (v := .tuple #[.agg #[.int .i64 1, .int .i64 k], .int .i64 D2]) ?_ rfl ⟨rfl, ?_⟩
        · simp [results, Tryz.results37, go_sem, C1]
        · go_grown
      subst hz
      by_cases h0 : k = 0
      · have hgo := Lib.hid (dated_go (o := true) hct.out hx' (by unfold Hid; exact bef_zero h0) hEv' (by unfold Hid; rfl))
        have hk1 : decide (0 < (k : Int)) = false := decide_eq_false (by omega)
        have hk2 : decide (0 < k) = false := decide_eq_false (by omega)
        clear h0
        go_wp2_with (go_at_call 63; refine (hE.out _).mono ?_; rintro e w2 ⟨rfl, hb⟩; have hbw := via hbw hb; replace B0 := bk_keep hb B0; replace B1 := bk_keep hb B1; replace C0 := bk4 B0; replace C1 := bk2 B1)
        refine region_all w (by kernel_rfl) (by kernel_rfl) (by go_grown) ?_
        intro hgc hbx
        repeat (go_big_quiet_step (fail))
        refine wpQuiet_nil ?_
        intro w3 hb3 hbw3 hsz3
        clear hgc hbx
        replace B0 := bk_keep hb3 B0
        replace B1 := bk_keep hb3 B1
        clear C0 C1
        go_wp2
        go_roundw
        case rel => exact ⟨k + 1, by omega, by go_num, hgo.out, hbw3, B0, B1⟩
        case measure => simp [intOf]; omega
      · obtain ⟨q, hq⟩ : ∃ q, k = q + 1 := ⟨k - 1, by omega⟩
        obtain ⟨y, hy⟩ : ∃ y, (rs)[q]? = some y := ⟨_, List.getElem?_eq_getElem (by rw [(hn').out]; omega)⟩
        obtain ⟨bq, oq, hAq, hblq, hcq⟩ := hatr q y hy
        obtain ⟨rfl, rfl⟩ : b = bq ∧ o = oq := by injection hAq with hAq; injection hAq with e1 e2 _; exact ⟨e1, e2⟩
        have p0 := hcq 1 (.int .i64 (Rd.d y)) rfl
        obtain ⟨dy, hdy⟩ : ∃ v, Rd.d y = v := ⟨_, rfl⟩
        rw [hdy] at p0
        try simp only [Nat.add_zero] at p0
        have hk1 : decide (0 < (k : Int)) = true := decide_eq_true (by omega)
        have hk2 : decide (0 < k) = true := decide_eq_true (by omega)
        have hq1 : (k : Int) - 1 = (q : Int) := by omega
        have hqn : (q : Int) < (n : Int) := by omega
        have hqt : ((q : Int)).toNat = q := by omega
        have hob := bef_succ (day := Rd.d) (x := ⟨xc, xd, xl, xh⟩) hq hy
        rw [hdy] at hob
        dsimp only at hob
        have hq' := Lib.hid hq
        clear h0 hcq hAq hy hq hdy
        by_cases hdd : dy ≤ xd
        · have hnd : ¬ xd < dy := by omega
          have hgo := Lib.hid (dated_go (o := true) hct.out hx' (by unfold Hid; rw [hob]; exact decide_eq_true hdd) hEv' (by unfold Hid; rfl))
          clear hob
          go_wp2_with (go_at_call 63; refine (hE.out _).mono ?_; rintro e w2 ⟨rfl, hb⟩; have hbw := via hbw hb; have p0' := (gcell hb _ _ hbl).trans p0; have c0' := (gcell hb _ _ hbl).trans c0; have c1' := (gcell hb _ _ hbl).trans c1; have hbl' : b < w2.heap.size := (by have := hb.size; omega); replace B0 := bk_keep hb B0; replace B1 := bk_keep hb B1; replace C0 := bk4 B0; replace C1 := bk2 B1)
          refine region_all w (by kernel_rfl) (by kernel_rfl) (by go_grown) ?_
          intro hgc hbx
          repeat (go_big_quiet_step (fail))
          refine wpQuiet_nil ?_
          intro w3 hb3 hbw3 hsz3
          clear hgc hbx
          replace B0 := bk_keep hb3 B0
          replace B1 := bk_keep hb3 B1
          replace C0 := bk4 B0
          replace C1 := bk2 B1
          go_wp2
          go_roundw
          case rel => exact ⟨k + 1, by omega, by go_num, hgo.out, hbw3, B0, B1⟩
          case measure => simp [intOf]; omega
        · have hnd : xd < dy := by omega
          have hst := dated_stop (o := false) hct.out hx' (by unfold Hid; rw [hob]; exact decide_eq_false hdd) hEv' (by unfold Hid; decide)
          rw [show firstE [0, unl false 9] = 9 from rfl, (hD').out] at hst
          obtain ⟨rfl, rfl⟩ := Prod.mk.inj hst
          have hv := hV'.out
          rw [if_neg (by decide)] at hv
          simp only [Prod.mk.injEq] at hv
          obtain ⟨⟨rfl, rfl⟩, rfl⟩ := hv
          clear hob hst
          go_wp2_with (go_at_call 63; refine (hE.out _).mono ?_; rintro e w2 ⟨rfl, hb⟩; have hbw := via hbw hb; have p0' := (gcell hb _ _ hbl).trans p0; have c0' := (gcell hb _ _ hbl).trans c0; have c1' := (gcell hb _ _ hbl).trans c1; have hbl' : b < w2.heap.size := (by have := hb.size; omega); replace B0 := bk_keep hb B0; replace B1 := bk_keep hb B1; replace C0 := bk4 B0; replace C1 := bk2 B1)
          refine region_all w (by kernel_rfl) (by kernel_rfl) (by go_grown) ?_
          intro hgc hbx
          repeat (go_big_quiet_step (fail))
          refine wpQuiet_nil ?_
          intro w3 hb3 hbw3 hsz3
          clear hgc hbx
          replace B0 := bk_keep hb3 B0
          replace B1 := bk_keep hb3 B1
          replace C0 := bk4 B0
          replace C1 := bk2 B1
          go_wp2
          refine bodyPost_ret (v := .tuple #[.agg #[.int .i64 1, .int .i64 k], .int .i64 9]) ?_ rfl ⟨rfl, ?_⟩
          · simp [results, Tryz.results37, go_sem, C1]
          · go_grown
    · have hkn : k = n := by omega
      subst hkn
      have he := dated_end hct.out (by rw [hn'.out]; exact Nat.le_refl _)
      rw [hD'.out] at he
      obtain ⟨rfl, rfl⟩ := Prod.mk.inj he
      have hV2 := Lib.hid ((if_pos rfl).symm.trans hV'.out)
      replace hV' := hV2
      clear hV2 hct he hD' hR hs' hat'
      try clear hbk
      go_wp2
      go_loopw [7] (fun i wr => ∃ k : Nat, k ≤ m ∧ i = .int .i64 k ∧ Hid (DatedAt moveE Mv.d ms k) ∧ Below w.heap.size w wr ∧ wr.heap[w.heap.size]? = some (.cells #[.int .i64 l0, .int .i64 l1, .slice A rs.length c, .slice A2 m c2] 27 (0, 0)) ∧ wr.heap[w.heap.size + 1]? = some (.cells #[.int .i64 0, .int .i64 0] 82 (0, 0))) (fun i _ => m - (intOf i).toNat)
      case atStart => exact ⟨0, Nat.zero_le _, rfl, rfl, hbw, by rw [hn'.out]; exact B0, B1⟩
      case round =>
        obtain ⟨k, hk, rfl, hct, hbw, B0, B1⟩ := hrel
        have C0 := bk4 B0
        have C1 := bk2 B1
        by_cases hlt : k < m
        · obtain ⟨x, hx⟩ : ∃ x, (ms)[k]? = some x := ⟨_, List.getElem?_eq_getElem (by rw [(hm').out]; exact hlt)⟩
          have hatr := (hat2').out.below hbw
          obtain ⟨b, o, hA, hbl, hc⟩ := hatr k x hx
          subst hA
          have hE := Lib.hid fun W => refMoveErr_any x W (hs2'.out x (List.mem_of_getElem? hx)).1 (hs2'.out x (List.mem_of_getElem? hx)).2
          have hx' := Lib.hid hx
          obtain ⟨xd, xf, xt, xv⟩ := x
          have c0 := hc 0 _ rfl
          have c1 := hc 1 _ rfl
          have c2 := hc 2 _ rfl
          have c3 := hc 3 _ rfl
          dsimp only at c0 c1 c2 c3 hE
          simp only [Nat.add_zero] at c0
          obtain ⟨E, hEv⟩ : ∃ E, moveE ⟨xd, xf, xt, xv⟩ = E := ⟨_, rfl⟩
          have hEv' : Hid (moveE ⟨xd, xf, xt, xv⟩ = E) := hEv
          rw [hEv] at hE
          clear hx hc hEv
          have hkn : (k : Int) < (m : Int) := by omega
          have hk0' : (0 : Int) ≤ (k : Int) := by omega
          by_cases hz : E = 0
          case neg =>
            have hst := dated_stop (o := okDay (bef Mv.d ms k) (Mv.d ⟨xd, xf, xt, xv⟩)) hct.out hx' rfl hEv' (by unfold Hid; rw [firstE_err hz]; exact hz)
            rw [firstE_err hz, (hM').out] at hst
            obtain ⟨rfl, rfl⟩ := Prod.mk.inj hst
            have hv := hV'.out
            simp only [hz, if_true, if_false, Prod.mk.injEq] at hv
            obtain ⟨⟨rfl, rfl⟩, rfl⟩ := hv
            have z1 : (M2 == 0) = false := by simpa using hz
            have z2 : (M2 != 0) = true := by simpa using hz
            clear hz hst
            go_wp2_with (go_at_call 64; refine (hE.out _).mono ?_; rintro e w2 ⟨rfl, hb⟩; have hbw := via hbw hb; replace B0 := bk_keep hb B0; replace B1 := bk_keep hb B1; replace C0 := bk4 B0; replace C1 := bk2 B1)
            refine region_all w (by kernel_rfl) (by kernel_rfl) (by go_grown) ?_
            intro hgc hbx
            repeat (go_big_quiet_step (fail))
            refine wpQuiet_nil ?_
            intro w3 hb3 hbw3 hsz3
            clear hgc hbx
            replace B0 := bk_keep hb3 B0
            replace B1 := bk_keep hb3 B1
            replace C0 := bk4 B0
            replace C1 := bk2 B1
            go_wp2
            refine bodyPost_ret (v := .tuple #[.agg #[.int .i64 2, .int .i64 k], .int .i64 M2]) ?_ rfl ⟨rfl, ?_⟩
            · simp [results, Tryz.results37, go_sem, C1]
            · go_grown
          subst hz
          by_cases h0 : k = 0
          · have hgo := Lib.hid (dated_go (o := true) hct.out hx' (by unfold Hid; exact bef_zero h0) hEv' (by unfold Hid; rfl))
            have hk1 : decide (0 < (k : Int)) = false := decide_eq_false (by omega)
            have hk2 : decide (0 < k) = false := decide_eq_false (by omega)
            clear h0
            go_wp2_with (go_at_call 64; refine (hE.out _).mono ?_; rintro e w2 ⟨rfl, hb⟩; have hbw := via hbw hb; replace B0 := bk_keep hb B0; replace B1 := bk_keep hb B1; replace C0 := bk4 B0; replace C1 := bk2 B1)
            refine region_all w (by kernel_rfl) (by kernel_rfl) (by go_grown) ?_
            intro hgc hbx
            repeat (go_big_quiet_step (fail))
            refine wpQuiet_nil ?_
            intro w3 hb3 hbw3 hsz3
            clear hgc hbx
            replace B0 := bk_keep hb3 B0
            replace B1 := bk_keep hb3 B1
            clear C0 C1
            go_wp2
            go_roundw
            case rel => exact ⟨k + 1, by omega, by go_num, hgo.out, hbw3, B0, B1⟩
            case measure => simp [intOf]; omega
          · obtain ⟨q, hq⟩ : ∃ q, k = q + 1 := ⟨k - 1, by omega⟩
            obtain ⟨y, hy⟩ : ∃ y, (ms)[q]? = some y := ⟨_, List.getElem?_eq_getElem (by rw [(hm').out]; omega)⟩
            obtain ⟨bq, oq, hAq, hblq, hcq⟩ := hatr q y hy
            obtain ⟨rfl, rfl⟩ : b = bq ∧ o = oq := by injection hAq with hAq; injection hAq with e1 e2 _; exact ⟨e1, e2⟩
            have p0 := hcq 0 (.int .i64 (Mv.d y)) rfl
            obtain ⟨dy, hdy⟩ : ∃ v, Mv.d y = v := ⟨_, rfl⟩
            rw [hdy] at p0
            try simp only [Nat.add_zero] at p0
            have hk1 : decide (0 < (k : Int)) = true := decide_eq_true (by omega)
            have hk2 : decide (0 < k) = true := decide_eq_true (by omega)
            have hq1 : (k : Int) - 1 = (q : Int) := by omega
            have hqn : (q : Int) < (m : Int) := by omega
            have hqt : ((q : Int)).toNat = q := by omega
            have hob := bef_succ (day := Mv.d) (x := ⟨xd, xf, xt, xv⟩) hq hy
            rw [hdy] at hob
            dsimp only at hob
            have hq' := Lib.hid hq
            clear h0 hcq hAq hy hq hdy
            by_cases hdd : dy ≤ xd
            · have hnd : ¬ xd < dy := by omega
              have hgo := Lib.hid (dated_go (o := true) hct.out hx' (by unfold Hid; rw [hob]; exact decide_eq_true hdd) hEv' (by unfold Hid; rfl))
              clear hob
              go_wp2_with (go_at_call 64; refine (hE.out _).mono ?_; rintro e w2 ⟨rfl, hb⟩; have hbw := via hbw hb; have p0' := (gcell hb _ _ hbl).trans p0; have c0' := (gcell hb _ _ hbl).trans c0; have c1' := (gcell hb _ _ hbl).trans c1; have hbl' : b < w2.heap.size := (by have := hb.size; omega); replace B0 := bk_keep hb B0; replace B1 := bk_keep hb B1; replace C0 := bk4 B0; replace C1 := bk2 B1)
              refine region_all w (by kernel_rfl) (by kernel_rfl) (by go_grown) ?_
              intro hgc hbx
              repeat (go_big_quiet_step (fail))
              refine wpQuiet_nil ?_
              intro w3 hb3 hbw3 hsz3
              clear hgc hbx
              replace B0 := bk_keep hb3 B0
              replace B1 := bk_keep hb3 B1
              replace C0 := bk4 B0
              replace C1 := bk2 B1
              go_wp2
              go_roundw
              case rel => exact ⟨k + 1, by omega, by go_num, hgo.out, hbw3, B0, B1⟩
              case measure => simp [intOf]; omega
            · have hnd : xd < dy := by omega
              have hst := dated_stop (o := false) hct.out hx' (by unfold Hid; rw [hob]; exact decide_eq_false hdd) hEv' (by unfold Hid; decide)
              rw [show firstE [0, unl false 9] = 9 from rfl, (hM').out] at hst
              obtain ⟨rfl, rfl⟩ := Prod.mk.inj hst
              have hv := hV'.out
              rw [if_neg (by decide)] at hv
              simp only [Prod.mk.injEq] at hv
              obtain ⟨⟨rfl, rfl⟩, rfl⟩ := hv
              clear hob hst
              go_wp2_with (go_at_call 64; refine (hE.out _).mono ?_; rintro e w2 ⟨rfl, hb⟩; have hbw := via hbw hb; have p0' := (gcell hb _ _ hbl).trans p0; have c0' := (gcell hb _ _ hbl).trans c0; have c1' := (gcell hb _ _ hbl).trans c1; have hbl' : b < w2.heap.size := (by have := hb.size; omega); replace B0 := bk_keep hb B0; replace B1 := bk_keep hb B1; replace C0 := bk4 B0; replace C1 := bk2 B1)
              refine region_all w (by kernel_rfl) (by kernel_rfl) (by go_grown) ?_
              intro hgc hbx
              repeat (go_big_quiet_step (fail))
              refine wpQuiet_nil ?_
              intro w3 hb3 hbw3 hsz3
              clear hgc hbx
              replace B0 := bk_keep hb3 B0
              replace B1 := bk_keep hb3 B1
              replace C0 := bk4 B0
              replace C1 := bk2 B1
              go_wp2
              refine bodyPost_ret (v := .tuple #[.agg #[.int .i64 2, .int .i64 k], .int .i64 9]) ?_ rfl ⟨rfl, ?_⟩
              · simp [results, Tryz.results37, go_sem, C1]
              · go_grown
        · have hkm : k = m := by omega
          subst hkm
          have he := dated_end hct.out (by rw [hm'.out]; exact Nat.le_refl _)
          rw [hM'.out] at he
          obtain ⟨rfl, rfl⟩ := Prod.mk.inj he
          have hv := hV'.out
          simp only [if_true, Prod.mk.injEq] at hv
          obtain ⟨⟨rfl, rfl⟩, rfl⟩ := hv
          go_wp2
          refine bodyPost_ret (v := .tuple #[.agg #[.int .i64 0, .int .i64 0], .int .i64 0]) ?_ rfl ⟨rfl, ?_⟩
          · simp [results, Tryz.results37, go_sem, C1]
          · go_grown
end Go.Proofs

set_option linter.unusedSimpArgs false
set_option linter.unusedVariables false
namespace Go.Proofs
open Go.RowKit

/-- The gaugings of a cask allow on a day: the greatest least end, the least greatest end; none: there is none. -/
def meet (l0 l1 : Int) (ms : List Mv) (cask : ByteArray) (day : Int) (o : Option (Int × Int)) (x : Rd) : Option (Int × Int) :=
  if eqS x.c cask then
    match o with
    | none => some (allowsLo l0 l1 ms x day, allowsHi l0 l1 ms x day)
    | some (a, b) => some (max (allowsLo l0 l1 ms x day) a, min (allowsHi l0 l1 ms x day) b)
  else o
def clashed (rs : List Rd) (cask : ByteArray) (ps : List (Nat × Nat)) : Bool :=
  ps.any fun p => match rs[p.1]? with
    | some x => eqS x.c cask
    | none => false
def atV (l0 l1 : Int) (rs : List Rd) (ms : List Mv) (cask : ByteArray) (day : Int) : (Int × Int) × Int :=
  if clashed rs cask (allPairs l0 l1 rs ms) then ((0, 0), 13)
  else match rs.foldl (meet l0 l1 ms cask day) none with
    | none => ((0, 0), 12)
    | some (a, b) => ((a / 1000, -(-b / 1000)), 0)

theorem allPairs_fst (l0 l1 : Int) (rs : List Rd) (ms : List Mv) : ∀ p ∈ allPairs l0 l1 rs ms, p.1 < rs.length ∧ p.2 < rs.length := by
  intro p hp
  unfold allPairs pout pin at hp
  simp only [List.mem_flatMap, List.mem_map, List.mem_filter, List.mem_range] at hp
  obtain ⟨a, ha, b, ⟨hb, _⟩, rfl⟩ := hp
  exact ⟨ha, hb⟩
theorem allPairs_len (l0 l1 : Int) (rs : List Rd) (ms : List Mv) (h : rs.length ≤ 40) : (allPairs l0 l1 rs ms).length ≤ 1600 := by
  have := pout_len (contraAt l0 l1 rs ms) rs.length rs.length
  have := Nat.mul_le_mul h h
  unfold allPairs
  omega

def CAtT (rs : List Rd) (cask : ByteArray) (ps : List (Nat × Nat)) (k : Nat) : Prop := clashed rs cask ps = clashed rs cask (ps.drop k)
theorem cAtT_step (rs : List Rd) (cask : ByteArray) (ps : List (Nat × Nat)) (k : Nat) (p : Nat × Nat) (h : ps[k]? = some p) :
    clashed rs cask (ps.drop k) = ((match rs[p.1]? with | some x => eqS x.c cask | none => false) || clashed rs cask (ps.drop (k + 1))) := by
  obtain ⟨hi, hx'⟩ := List.getElem?_eq_some_iff.1 h
  rw [List.drop_eq_getElem_cons hi, hx']
  rfl

set_option maxRecDepth 100000 in
set_option maxHeartbeats 2000000 in
theorem at_clash (l0 l1 : Int) (A A2 : Option Addr) (rs : List Rd) (ms : List Mv) (c c2 : Nat) (cask : ByteArray) (day : Int) (w : World) (hok : Right l0 l1 rs ms) (hat : At 4 Rd.cs w A rs) (hat2 : At 4 Mv.cs w A2 ms)
    (hcl : clashed rs cask (allPairs l0 l1 rs ms) = true) :
    Calls Tryz.prog 47 #[.agg #[.int .i64 l0, .int .i64 l1, .slice A rs.length c, .slice A2 ms.length c2], .string cask, .int .i64 day] w fun e w' =>
      e = .returned (.tuple #[.agg #[.int .i64 0, .int .i64 0], .int .i64 13]) ∧ Below w.heap.size w w' := by
  have hP := Lib.hid fun W hW => pairs_any l0 l1 A A2 rs ms c c2 W hok (At.below hat hW) (At.below hat2 hW)
  have hf := Lib.hid (allPairs_fst l0 l1 rs ms)
  have hpl := allPairs_len l0 l1 rs ms hok.rn
  have hrn := hok.rn
  generalize allPairs l0 l1 rs ms = ps at *
  obtain ⟨np, hnp⟩ : ∃ np, ps.length = np := ⟨_, rfl⟩
  have hnp' := Lib.hid hnp
  rw [hnp] at hP hpl
  clear hnp
  have hat' := Lib.hid hat
  obtain ⟨n, hn⟩ : ∃ n, rs.length = n := ⟨_, rfl⟩
  have hn' := Lib.hid hn
  have hcl' := Lib.hid hcl
  rw [hn] at hP hrn ⊢
  clear hn hat hat2 hok hcl
  go_enter Tryz.func47, Tryz.ntmps47
  go_wp2_with (go_at_call 25; refine (hP.out _ ?_).mono ?_; (· go_grown); rintro e w1 ⟨⟨A3, cap3, rfl, hat3⟩, hb⟩; have hat3' := Lib.hid hat3; clear hat3; have hcc := gcell hb; have hff := gfrozen hb; have hbw := via (by go_grown : Below w.heap.size w _) hb; have hz0 : w.heap.size < w1.heap.size := (by have := hb.size; simp at this; omega); have hz1 : w.heap.size + 1 < w1.heap.size := (by have := hb.size; simp at this; omega))
  have hcl2 : ∀ k, Hid (CAtT rs cask ps k) → ps.length ≤ k → False := fun k h hk => by
    have := h.out
    unfold CAtT at this
    rw [List.drop_of_length_le hk] at this
    rw [hcl'.out] at this
    cases this
  have hcl3 := Lib.hid hcl2
  clear hcl2
  go_loopw [18] (fun i wr => ∃ k : Nat, k ≤ np ∧ i = .int .i64 k ∧ Hid (CAtT rs cask ps k) ∧ Below w.heap.size w wr ∧ Below w1.heap.size w1 wr) (fun i _ => np - (intOf i).toNat)
  case atStart => exact ⟨0, Nat.zero_le _, rfl, by unfold Hid CAtT; rw [List.drop_zero], hbw, Below.refl _ _⟩
  case round =>
    obtain ⟨k, hk, rfl, hct, hb1, hb2⟩ := hrel
    have hc1 := gcell hb2
    have hf1 := gfrozen hb2
    have hs1 := hb2.size
    have hz2 : w.heap.size < wr.heap.size := by omega
    have hz3 : w.heap.size + 1 < wr.heap.size := by omega
    by_cases hlt : k < np
    · have hkl : k < ps.length := by rw [hnp'.out]; exact hlt
      have hx : ps[k]? = some ps[k] := List.getElem?_eq_getElem hkl
      obtain ⟨m, hme⟩ : ∃ m, ps[k] = m := ⟨_, rfl⟩
      rw [hme] at hx
      obtain ⟨b, o, hA, hbl, hc⟩ := (hat3'.out.below hb2) k m hx
      subst hA
      have hmf := hf.out m (List.mem_of_getElem? hx)
      have hcs := Lib.hid (cAtT_step rs cask ps k m hx)
      obtain ⟨p1, p2⟩ := m
      have c0 := hc 0 _ rfl
      have c1 := hc 1 _ rfl
      dsimp only at c0 c1 hmf
      simp only [Nat.add_zero] at c0
      have hp1 : p1 < n := by rw [← hn'.out]; exact hmf.1
      have hxx : rs[p1]? = some rs[p1] := List.getElem?_eq_getElem hmf.1
      obtain ⟨x, hxe⟩ : ∃ x, rs[p1] = x := ⟨_, rfl⟩
      rw [hxe] at hxx
      obtain ⟨b2, o2, hA2, hbl2, hcx⟩ := (hat'.out.below hb1) p1 x hxx
      subst hA2
      have d0 := hcx 0 _ rfl
      simp only [Nat.add_zero] at d0
      have hxx' := Lib.hid hxx
      have hp1i : (p1 : Int) < (n : Int) := by omega
      clear hx hme hc hmf hxe hcx hxx
      cases hq : eqS x.c cask
      · have hq2 : (x.c.toList == cask.toList) = false := hq
        have hq' := Lib.hid hq
        clear hq
        go_wp2
        go_roundw
        case rel => exact ⟨k + 1, by omega, by go_num, by
          have e := hcs.out
          rw [hxx'.out] at e
          dsimp only at e
          rw [hq'.out, Bool.false_or] at e
          unfold Hid CAtT; rw [hct.out, e], via_alloc hb1 _, hb2.alloc hb2.size _⟩
        case measure => simp [intOf]; omega
      · have hq2 : (x.c.toList == cask.toList) = true := hq
        have hq' := Lib.hid hq
        clear hq
        go_wp2
        refine bodyPost_ret (v := .tuple #[.agg #[.int .i64 0, .int .i64 0], .int .i64 13]) ?_ rfl ⟨rfl, ?_⟩
        · simp [results, Tryz.results47, go_sem, hz3, hc1, hf1, hcc, hff, hz0, hz1]
        · go_grown
    · exact (hcl3.out k hct (by rw [hnp'.out]; omega)).elim
end Go.Proofs
