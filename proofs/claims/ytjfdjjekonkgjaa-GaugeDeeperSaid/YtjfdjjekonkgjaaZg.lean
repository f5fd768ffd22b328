import Derived.Test.YtjfdjjekonkgjaaZf
import Derived.Test.YtjfdjjekonkgjaaNa
import Derived.Test.YtjfdjjekonkgjaaBk2
set_option linter.unusedSimpArgs false
set_option linter.unusedVariables false
namespace Go.Proofs
open Go.RowKit

theorem stE_two {bung : Int} {p : Option Int} {s : St} (h : (within s.at_ 0 3000 && within s.inn 10 bung && within s.out 10 bung) = false) : stE bung p s = 2 := by
  unfold stE; rw [h]; rfl
theorem stE_nine {bung : Int} {p : Option Int} {s : St} (h : (within s.at_ 0 3000 && within s.inn 10 bung && within s.out 10 bung) = true) (h2 : (decide (s.inn ≤ s.out) && (match p with | none => true | some q => decide (q < s.at_))) = false) : stE bung p s = 9 := by
  unfold stE; rw [h]; simp only [firstE, unl]; revert h2; cases p <;> simp <;> omega
theorem stE_none {bung : Int} {p : Option Int} {s : St} (h : (within s.at_ 0 3000 && within s.inn 10 bung && within s.out 10 bung) = true) (h2 : (decide (s.inn ≤ s.out) && (match p with | none => true | some q => decide (q < s.at_))) = true) : stE bung p s = 0 := by
  unfold stE; rw [h]; simp only [firstE, unl]; revert h2; cases p <;> simp <;> omega
theorem checkC_head {name : List UInt8} {bung : Int} {ss : List St} {e : Int} (h : caskHeadE name bung ss.length = e) (he : e ≠ 0) : checkC name bung ss = (0, e) := by
  unfold checkC; rw [h, if_neg he]

set_option maxRecDepth 100000 in
set_option maxHeartbeats 2000000 in
theorem refCheckCask_any (s : ByteArray) (bung : Int) (A : Option Addr) (ss : List St) (c : Nat) (w : World) (hs : s.size ≤ 9223372036854775807) (hat : At 3 St.cs w A ss) :
    Calls Try.prog 34 #[.agg #[.string s, .int .i64 bung, .slice A ss.length c]] w fun e w' =>
      e = .returned (.tuple #[.int .i64 (checkC s.data.toList bung ss).1, .int .i64 (checkC s.data.toList bung ss).2]) ∧ Below w.heap.size w w' := by
  obtain ⟨n, hn⟩ : ∃ n, ss.length = n := ⟨_, rfl⟩
  have hN := Lib.hid fun W => refName_any s W hs
  have hB := Lib.hid fun W => refWithin_any bung 10 800 W
  cases h1 : nameB s.data.toList
  · rw [checkC_head (e := 4) (by unfold caskHeadE; rw [h1]; rfl) (by decide)]
    rw [h1] at hN
    clear h1
    go_enter Try.func34, Try.ntmps34
    go_wp2_with (go_at_call 58; refine (hN.out _).mono ?_; rintro e w1 ⟨rfl, rfl⟩)
    go_ret2
    exact ⟨rfl, new_below _ _⟩
  cases h2 : within bung 10 800
  · rw [checkC_head (e := 2) (by unfold caskHeadE; rw [h1, h2]; rfl) (by decide)]
    rw [h1] at hN
    rw [h2] at hB
    clear h1 h2
    go_enter Try.func34, Try.ntmps34
    go_wp2_with (first
      | (go_at_call 58; refine (hN.out _).mono ?_; rintro e w1 ⟨rfl, rfl⟩)
      | (go_at_call 19; refine (hB.out _).mono ?_; rintro e w1 ⟨rfl, rfl⟩))
    go_ret2
    exact ⟨rfl, new_below _ _⟩
  by_cases h3 : 1 < n
  case neg =>
    rw [checkC_head (e := 10) (by unfold caskHeadE; rw [h1, h2, hn, decide_eq_false (by omega : ¬ 1 < (n : Int))]; rfl) (by decide), hn]
    rw [h1] at hN
    rw [h2] at hB
    have i3 : (n : Int) < 2 := by omega
    clear h1 h2 hn h3
    go_enter Try.func34, Try.ntmps34
    go_wp2_with (first
      | (go_at_call 58; refine (hN.out _).mono ?_; rintro e w1 ⟨rfl, rfl⟩)
      | (go_at_call 19; refine (hB.out _).mono ?_; rintro e w1 ⟨rfl, rfl⟩))
    go_ret2
    exact ⟨rfl, new_below _ _⟩
  by_cases h4 : n ≤ 12
  case neg =>
    rw [checkC_head (e := 8) (by unfold caskHeadE; rw [h1, h2, hn, decide_eq_true (by omega : 1 < (n : Int)), decide_eq_false (by omega : ¬ (n : Int) ≤ 12)]; rfl) (by decide), hn]
    rw [h1] at hN
    rw [h2] at hB
    have i3 : ¬ (n : Int) < 2 := by omega
    have i4 : 12 < (n : Int) := by omega
    clear h1 h2 hn h3 h4
    go_enter Try.func34, Try.ntmps34
    go_wp2_with (first
      | (go_at_call 58; refine (hN.out _).mono ?_; rintro e w1 ⟨rfl, rfl⟩)
      | (go_at_call 19; refine (hB.out _).mono ?_; rintro e w1 ⟨rfl, rfl⟩))
    go_ret2
    exact ⟨rfl, new_below _ _⟩
  have hcC : checkC s.data.toList bung ss = stationsE bung ss none 0 := by
    unfold checkC
    rw [if_pos]
    unfold caskHeadE
    rw [h1, h2, hn, decide_eq_true (by omega : 1 < (n : Int)), decide_eq_true (by omega : (n : Int) ≤ 12)]; rfl
  rw [hcC, hn]
  rw [h1] at hN
  rw [h2] at hB
  have i3 : ¬ (n : Int) < 2 := by omega
  have i4 : ¬ 12 < (n : Int) := by omega
  have hn' := Lib.hid hn
  have hat' := Lib.hid hat
  obtain ⟨R, hR⟩ : ∃ R, stationsE bung ss none 0 = R := ⟨_, rfl⟩
  have hR' := Lib.hid hR
  rw [hR]
  clear h1 h2 hn hat hcC hR
  obtain ⟨R1, R2⟩ := R
  dsimp only
  go_enter Try.func34, Try.ntmps34
  go_wp2_with (first
    | (go_at_call 58; refine (hN.out _).mono ?_; rintro e w1 ⟨rfl, rfl⟩)
    | (go_at_call 19; refine (hB.out _).mono ?_; rintro e w1 ⟨rfl, rfl⟩))
  clear hN hB
  go_loopw [4] (fun i wr => ∃ k : Nat, k ≤ n ∧ i = .int .i64 k ∧ Hid (CAt bung ss k) ∧ Below w.heap.size w wr ∧ wr.heap[w.heap.size]? = some (.cells #[.string s, .int .i64 bung, .slice A n c] 34 (0, 0))) (fun i _ => n - (intOf i).toNat)
  case atStart => exact ⟨0, Nat.zero_le _, rfl, rfl, by go_grown, by (repeat (first | assumption | exact bk_new _ _ (by simp) | refine bk_drew ?_ | refine bk_alloc ?_ _ | refine bk_set ?_ (by simp <;> omega) _))⟩
  case round =>
    obtain ⟨k, hk, rfl, hct, hb, B0⟩ := hrel
    have C0 := bk3 B0
    by_cases hlt : k < n
    · have hkl : k < ss.length := by rw [hn'.out]; exact hlt
      obtain ⟨x, hme⟩ : ∃ m, ss[k] = m := ⟨_, rfl⟩
      have hx : ss[k]? = some x := by rw [← hme]; exact List.getElem?_eq_getElem hkl
      have hatr := hat'.out.below hb
      obtain ⟨b, o, hA, hbl, hc⟩ := hatr k x hx
      subst hA
      have hx' := Lib.hid hx
      obtain ⟨sa, si, so⟩ := x
      have c0 := hc 0 _ rfl
      have c1 := hc 1 _ rfl
      have c2 := hc 2 _ rfl
      dsimp only at c0 c1 c2
      simp only [Nat.add_zero] at c0
      have hW1 := Lib.hid fun W => refWithin_any sa 0 3000 W
      have hW2 := Lib.hid fun W => refWithin_any si 10 bung W
      have hW3 := Lib.hid fun W => refWithin_any so 10 bung W
      obtain ⟨b1, h1⟩ : ∃ b, within sa 0 3000 = b := ⟨_, rfl⟩
      obtain ⟨b2, h2⟩ : ∃ b, within si 10 bung = b := ⟨_, rfl⟩
      obtain ⟨b3, h3⟩ : ∃ b, within so 10 bung = b := ⟨_, rfl⟩
      rw [h1] at hW1
      rw [h2] at hW2
      rw [h3] at hW3
      clear hx hme hc hkl
      by_cases hall : (b1 && b2 && b3) = true
      case neg =>
        have hallf : (within sa 0 3000 && within si 10 bung && within so 10 bung) = false := by rw [h1, h2, h3]; simpa using hall
        have hstop := cask_stop hct.out hx' (p := _) rfl (by unfold Hid; rw [stE_two hallf]; decide)
        rw [stE_two hallf, hR'.out] at hstop
        simp only [Prod.mk.injEq] at hstop
        obtain ⟨rfl, rfl⟩ := hstop
        have hcase : b1 = false ∨ (b1 = true ∧ b2 = false) ∨ (b1 = true ∧ b2 = true ∧ b3 = false) := by revert hall; cases b1 <;> cases b2 <;> cases b3 <;> simp
        clear h1 h2 h3 hallf hall
        rcases hcase with rfl | ⟨rfl, rfl⟩ | ⟨rfl, rfl, rfl⟩
        all_goals
          go_wp2_with (first
            | (go_at_call 19; refine Calls.mono (by with_reducible exact hW1.out _) ?_; rintro e w1 ⟨rfl, rfl⟩)
            | (go_at_call 19; refine Calls.mono (by with_reducible exact hW2.out _) ?_; rintro e w1 ⟨rfl, rfl⟩)
            | (go_at_call 19; refine Calls.mono (by with_reducible exact hW3.out _) ?_; rintro e w1 ⟨rfl, rfl⟩))
          go_ret2
          exact ⟨rfl, by go_grown⟩
      have hallt : (within sa 0 3000 && within si 10 bung && within so 10 bung) = true := by rw [h1, h2, h3]; exact hall
      obtain ⟨⟨rfl, rfl⟩, rfl⟩ : (b1 = true ∧ b2 = true) ∧ b3 = true := by simpa using hall
      clear h1 h2 h3 hall
      have hwalk := True.intro
      by_cases hio : si ≤ so
      case neg =>
        have hio2 : so < si := by omega
        have h9 := fun p => stE_nine (bung := bung) (p := p) (s := ⟨sa, si, so⟩) hallt (by simp [hio])
        have hstop := cask_stop hct.out hx' (p := _) rfl (by unfold Hid; rw [h9]; decide)
        rw [h9, hR'.out] at hstop
        simp only [Prod.mk.injEq] at hstop
        obtain ⟨rfl, rfl⟩ := hstop
        clear h9 hallt
        go_wp2_with (first
          | (go_at_call 19; refine Calls.mono (by with_reducible exact hW1.out _) ?_; rintro e w1 ⟨rfl, rfl⟩)
          | (go_at_call 19; refine Calls.mono (by with_reducible exact hW2.out _) ?_; rintro e w1 ⟨rfl, rfl⟩)
          | (go_at_call 19; refine Calls.mono (by with_reducible exact hW3.out _) ?_; rintro e w1 ⟨rfl, rfl⟩))
        refine region_all w (by kernel_rfl) (by kernel_rfl) (by go_grown) ?_
        intro hgc hbx
        repeat (go_big_quiet_step (fail))
        refine wpQuiet_nil ?_
        intro w3 hb3 hbw3 hsz3
        clear hgc hbx
        replace B0 := bk_keep hb3 (bk_alloc B0 _)
        replace C0 := bk3 B0
        go_wp2
        go_ret2
        exact ⟨rfl, by go_grown⟩
      have hio3 : decide (so < si) = false := decide_eq_false (by omega)
      by_cases h0 : k = 0
      · have hk0 : decide (0 < (k : Int)) = false := decide_eq_false (by omega)
        have hk0n : decide (0 < k) = false := decide_eq_false (by omega)
        have hp : Hid ((if k = 0 then none else (ss[k - 1]?).map St.at_) = none) := if_pos h0
        have hgo := Lib.hid (cask_go hct.out hx' hp (by unfold Hid; exact stE_none hallt (by simp [hio])))
        clear hallt h0
        go_wp2_with (first
          | (go_at_call 19; refine Calls.mono (by with_reducible exact hW1.out _) ?_; rintro e w1 ⟨rfl, rfl⟩)
          | (go_at_call 19; refine Calls.mono (by with_reducible exact hW2.out _) ?_; rintro e w1 ⟨rfl, rfl⟩)
          | (go_at_call 19; refine Calls.mono (by with_reducible exact hW3.out _) ?_; rintro e w1 ⟨rfl, rfl⟩))
        refine region_all w (by kernel_rfl) (by kernel_rfl) (by go_grown) ?_
        intro hgc hbx
        repeat (go_big_quiet_step (fail))
        refine wpQuiet_nil ?_
        intro w3 hb3 hbw3 hsz3
        clear hgc hbx
        replace B0 := bk_keep hb3 (bk_alloc B0 _)
        replace C0 := bk3 B0
        go_wp2
        go_roundw
        case rel => exact ⟨k + 1, by omega, by go_num, hgo.out, by go_grown, B0⟩
        case measure => simp [intOf]; omega
      · have hk0 : decide (0 < (k : Int)) = true := decide_eq_true (by omega)
        have hk0n : decide (0 < k) = true := decide_eq_true (by omega)
        obtain ⟨q, hq⟩ : ∃ q, k = q + 1 := ⟨k - 1, by omega⟩
        have hql : q < ss.length := by rw [hn'.out]; omega
        obtain ⟨m, hme⟩ : ∃ m, ss[q] = m := ⟨_, rfl⟩
        have hxq : ss[q]? = some m := by rw [← hme]; exact List.getElem?_eq_getElem hql
        obtain ⟨bq, oq, hAq, hblq, hcq⟩ := hatr q m hxq
        obtain ⟨rfl, rfl⟩ : b = bq ∧ o = oq := by injection hAq with hAq; injection hAq with e1 e2 _; exact ⟨e1, e2⟩
        obtain ⟨pa, pi', po⟩ := m
        have p0 := hcq 0 _ rfl
        dsimp only at p0
        simp only [Nat.add_zero] at p0
        have hp : Hid ((if k = 0 then none else (ss[k - 1]?).map St.at_) = some pa) := by
          unfold Hid
          rw [if_neg h0, show k - 1 = q by omega, hxq]; rfl
        have hq1 : (k : Int) - 1 = (q : Int) := by omega
        have hqn : (q : Int) < (n : Int) := by omega
        have hqt : ((q : Int)).toNat = q := by omega
        clear h0 hme hcq hAq hxq hql
        have hq' := Lib.hid hq
        clear hq
        by_cases hpa : pa < sa
        · have hpa2 : ¬ sa ≤ pa := by omega
          have hgo := Lib.hid (cask_go hct.out hx' hp (by unfold Hid; exact stE_none hallt (by simp [hio, hpa])))
          clear hallt
          go_wp2_with (first
            | (go_at_call 19; refine Calls.mono (by with_reducible exact hW1.out _) ?_; rintro e w1 ⟨rfl, rfl⟩)
            | (go_at_call 19; refine Calls.mono (by with_reducible exact hW2.out _) ?_; rintro e w1 ⟨rfl, rfl⟩)
            | (go_at_call 19; refine Calls.mono (by with_reducible exact hW3.out _) ?_; rintro e w1 ⟨rfl, rfl⟩))
          refine region_all w (by kernel_rfl) (by kernel_rfl) (by go_grown) ?_
          intro hgc hbx
          repeat (go_big_quiet_step (fail))
          refine wpQuiet_nil ?_
          intro w3 hb3 hbw3 hsz3
          clear hgc hbx
          replace B0 := bk_keep hb3 (bk_alloc B0 _)
          replace C0 := bk3 B0
          go_wp2
          go_roundw
          case rel => exact ⟨k + 1, by omega, by go_num, hgo.out, by go_grown, B0⟩
          case measure => simp [intOf]; omega
        · have hpa2 : sa ≤ pa := by omega
          have h9 := stE_nine (bung := bung) (p := some pa) (s := ⟨sa, si, so⟩) hallt (by simp [hio, hpa])
          have hstop := cask_stop hct.out hx' hp (by unfold Hid; rw [h9]; decide)
          rw [h9, hR'.out] at hstop
          simp only [Prod.mk.injEq] at hstop
          obtain ⟨rfl, rfl⟩ := hstop
          clear h9 hallt
          go_wp2_with (first
            | (go_at_call 19; refine Calls.mono (by with_reducible exact hW1.out _) ?_; rintro e w1 ⟨rfl, rfl⟩)
            | (go_at_call 19; refine Calls.mono (by with_reducible exact hW2.out _) ?_; rintro e w1 ⟨rfl, rfl⟩)
            | (go_at_call 19; refine Calls.mono (by with_reducible exact hW3.out _) ?_; rintro e w1 ⟨rfl, rfl⟩))
          refine region_all w (by kernel_rfl) (by kernel_rfl) (by go_grown) ?_
          intro hgc hbx
          repeat (go_big_quiet_step (fail))
          refine wpQuiet_nil ?_
          intro w3 hb3 hbw3 hsz3
          clear hgc hbx
          replace B0 := bk_keep hb3 (bk_alloc B0 _)
          replace C0 := bk3 B0
          go_wp2
          go_ret2
          exact ⟨rfl, by go_grown⟩
    · have hkn : n ≤ k := by omega
      have he := cask_end hct.out (by rw [hn'.out]; exact hkn)
      rw [hR'.out] at he
      simp only [Prod.mk.injEq] at he
      obtain ⟨rfl, rfl⟩ := he
      go_wp2
      go_ret2
      exact ⟨rfl, by go_grown⟩
end Go.Proofs
