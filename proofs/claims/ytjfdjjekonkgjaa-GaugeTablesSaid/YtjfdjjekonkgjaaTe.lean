import Derived.Test.YtjfdjjekonkgjaaTd
set_option linter.unusedSimpArgs false
set_option linter.unusedVariables false
namespace Go.Proofs
open Go.RowKit

set_option maxRecDepth 100000 in
set_option maxHeartbeats 1000000 in
theorem sameRows_any (A A2 : Option Addr) (l : List (Int × Int × Int)) (c c2 : Nat) (w : World) (hn : l.length ≤ 1000) (hat : At 3 Rwc w A l) (hat2 : At 3 Rwc w A2 l) :
    Calls Try.prog 44 #[.slice A l.length c, .slice A2 l.length c2] w fun e w' => e = .returned (.bool true) ∧ Below w.heap.size w w' := by
  obtain ⟨n, hl⟩ : ∃ n, l.length = n := ⟨_, rfl⟩
  have hl' := Lib.hid hl
  have ha := Lib.hid hat
  have ha2 := Lib.hid hat2
  rw [hl] at hn ⊢
  clear hl hat hat2
  go_enter Try.func44, Try.ntmps44
  go_wp2_with fail
  go_loopw [5] (fun i wr => ∃ k : Nat, k ≤ n ∧ i = .int .i64 k ∧ Below w.heap.size w wr) (fun i _ => n - (intOf i).toNat)
  case atStart => exact ⟨0, Nat.zero_le _, rfl, Below.refl _ _⟩
  case round =>
    obtain ⟨k, hk, rfl, hb⟩ := hrel
    by_cases hlt : k < n
    · obtain ⟨p, hx⟩ : ∃ p, l[k]? = some p := ⟨_, List.getElem?_eq_getElem (by rw [hl'.out]; exact hlt)⟩
      obtain ⟨b, o, rfl, hbl, hc⟩ := (ha.out.below hb) k p hx
      obtain ⟨b2, o2, rfl, hbl2, hc2⟩ := (ha2.out.below hb) k p hx
      obtain ⟨p0, p1, p2⟩ := p
      have c0 := hc 0 _ rfl
      have c1 := hc 1 _ rfl
      have c2' := hc 2 _ rfl
      have d0 := hc2 0 _ rfl
      have d1 := hc2 1 _ rfl
      have d2 := hc2 2 _ rfl
      simp only [Nat.add_zero] at c0 d0
      dsimp only at c0 c1 c2' d0 d1 d2
      have hk0 : (0 : Int) ≤ (k : Int) := by omega
      have hkn : (k : Int) < (n : Int) := by omega
      clear hx hc hc2
      go_wp2_with fail
      refine region_all w (by kernel_rfl) (by kernel_rfl) (by go_grown) ?_
      intro hgc hbx
      repeat (go_big_quiet_step (fail))
      refine wpQuiet_nil ?_
      intro w3 hb3 hbw3 hsz3
      clear hgc hbx
      go_wp2
      go_roundw
      case rel => exact ⟨k + 1, by omega, by go_num, hbw3⟩
      case measure => simp [intOf]; omega
    · go_wp2
      go_ret
      exact ⟨rfl, hb⟩

def CaskT (s : ByteArray) (bung : Int) (ss : List St) (n : Nat) (V : Value) (x : World) : Prop := ∃ A' c', V = .agg #[.string s, .int .i64 bung, .slice A' n c'] ∧ At 3 St.cs x A' ss ∧ n ≤ c'
theorem caskT_stable (s : ByteArray) (bung : Int) (ss : List St) (n : Nat) : ∀ V x x', CaskT s bung ss n V x → Below x.heap.size x x' → CaskT s bung ss n V x' := fun V x x' ⟨A', c', h1, h2, h3⟩ hb => ⟨A', c', h1, h2.below hb, h3⟩
theorem refTableOf_bad (s : ByteArray) (bung : Int) (A : Option Addr) (n c : Nat) (step : Int) (w : World) (hst : within step 10 800 = false) :
    Calls Try.prog 42 #[.agg #[.string s, .int .i64 bung, .slice A n c], .int .i64 step] w fun e w' => RetRows w [] 2 e w' := by
  have hI := Lib.hid fun W => refWithin_any step 10 800 W
  rw [hst] at hI
  go_enter Try.func42, Try.ntmps42
  go_wp2_with (go_at_call 19; refine (hI.out _).mono ?_; rintro e w1 ⟨rfl, rfl⟩)
  go_ret2
  exact ⟨⟨none, 0, rfl, fun k x hx => by simp at hx⟩, by go_grown⟩
theorem tabGo_len (bung : Int) (ss : List St) (step : Int) : ∀ f d, (tabGo bung ss step f d).length ≤ f
  | 0, d => by simp [tabGo]
  | f + 1, d => by
    unfold tabGo
    split
    · simp only [List.length_cons]
      have := tabGo_len bung ss step f (d + step)
      omega
    · simp
theorem fromDipV_right {s : ByteArray} {bung : Int} {ss : List St} {day dip wrong : Int} (h0 : (checkC s.data.toList bung ss).2 = 0) (hR : RightC bung ss) : fromDipV s bung ss day dip wrong = refFromV s bung ss day dip wrong := by
  unfold fromDipV refFromV fromE fromB
  rw [h0, wrap_bung hR]
  generalize (within day 0 100000 && within dip 0 (2 * bung) && within wrong 0 (2 * bung)) = B
  cases B <;> simp [firstE, unl]
theorem fromDipV_wrong {s : ByteArray} {bung : Int} {ss : List St} {day dip wrong : Int} (h0 : (checkC s.data.toList bung ss).2 ≠ 0) : fromDipV s bung ss day dip wrong = (Rd.zero, (checkC s.data.toList bung ss).2) := by
  unfold fromDipV fromE
  simp [firstE, h0]

set_option maxRecDepth 100000 in
set_option maxHeartbeats 4000000 in
theorem gaugeTables_walk (w : World) (s : ByteArray) (bung : Int) (A : Option Addr) (ss : List St) (c : Nat) (hs : s.size ≤ 9223372036854775807) (hb1 : -9223372036854775808 ≤ bung) (hb2 : bung ≤ 9223372036854775807)
    (hat : At 3 St.cs w A ss) (hl : ss.length ≤ c) (hn : A = none → c = 0) (step : Int) (hd1 : -9223372036854775808 ≤ step) (hd2 : step ≤ 9223372036854775807) (day dip wrong : Int) :
    Calls Try.prog 10 #[.agg #[.string s, .int .i64 bung, .slice A ss.length c], .int .i64 step, .agg #[.int .i64 day, .int .i64 dip, .int .i64 wrong]] w fun e w' => e = .returned (.bool true) ∧ Below w.heap.size w w' := by
  obtain ⟨n, hn0⟩ : ∃ n, ss.length = n := ⟨_, rfl⟩
  have hS := Lib.hid fun W => small_any s bung A n c W
  cases hsm : smallB s.size n bung
  · rw [hsm] at hS
    rw [hn0]
    clear hsm hn0
    go_enter Try.func10, Try.ntmps10
    go_wp2_with (first | (go_at_call 15; refine (awake_any _).mono ?_; rintro e w1 ⟨rfl, hb⟩; have hbw := via (by go_grown : Below w.heap.size w _) hb; have B0 : w1.heap[w.heap.size]? = some (.cells #[.string s, .int .i64 bung, .slice A n c] 34 (0, 0)) := bk_keep hb (by (repeat (first | assumption | exact bk_new _ _ (by simp) | refine bk_drew ?_ | refine bk_alloc ?_ _ | refine bk_set ?_ (by simp <;> omega) _))); have C0 := bk3 B0) | (go_at_call 20; refine (hS.out _).mono ?_; rintro e w2 ⟨rfl, hb⟩; have hbw := via (by go_grown : Below w.heap.size w _) hb; replace B0 := bk_keep hb B0; replace C0 := bk3 B0))
    go_ret
    exact ⟨rfl, hbw⟩
  rw [hsm] at hS
  obtain ⟨g1, g2, g3⟩ := small_len hsm
  have hC := Lib.hid fun W (hw : Below w.heap.size w W) => copyCask_any s bung A ss c W (by omega) hn (At.below hat hw)
  have hE := Lib.hid fun W (hw : Below w.heap.size w W) => caskErr_any s bung A ss c W hs (At.below hat hw)
  have hErr : Hid ((checkC s.data.toList bung ss).2 = 0 → RightC bung ss) := fun h => rightC_of h
  have hat' := Lib.hid hat
  have hn0' := Lib.hid hn0
  rw [hn0] at hC hE hl ⊢
  have hV := Lib.hid fun W A' c' (hc : ss.length ≤ c') (ha : At 3 St.cs W A' ss) => tableOf_any s bung A' ss c' step W hs hc ha
  have hG := Lib.hid fun W A' c' (hc : ss.length ≤ c') (ha : At 3 St.cs W A' ss) => fromDip_any s bung A' ss c' day dip wrong W hs hc ha
  simp only [hn0] at hV hG
  unfold tabE at hV
  clear hn hsm hat g1 g2 g3
  by_cases hz : (checkC s.data.toList bung ss).2 = 0
  case neg =>
    rw [fromDipV_wrong hz] at hG
    generalize (checkC s.data.toList bung ss).2 = E at *
    have e1 : firstE [E, unl (within step 10 800) 2] = E := by simp [firstE, hz]
    rw [e1, if_neg hz] at hV
    have z2 : (E != 0) = true := by simpa using hz
    have z3 : (E == E) = true := by simp
    unfold rdv Rd.zero at hG
    dsimp only at hG
    clear hz e1 hErr hn0 hn0' hat'
    go_enter Try.func10, Try.ntmps10
    go_wp2_with (first | (go_at_call 15; refine (awake_any _).mono ?_; rintro e w1 ⟨rfl, hb⟩; have hbw := via (by go_grown : Below w.heap.size w _) hb; have B0 : w1.heap[w.heap.size]? = some (.cells #[.string s, .int .i64 bung, .slice A n c] 34 (0, 0)) := bk_keep hb (by (repeat (first | assumption | exact bk_new _ _ (by simp) | refine bk_drew ?_ | refine bk_alloc ?_ _ | refine bk_set ?_ (by simp <;> omega) _))); have C0 := bk3 B0; have B1 : w1.heap[w.heap.size + 1]? = some (.cells #[.int .i64 day, .int .i64 dip, .int .i64 wrong] 77 (0, 0)) := bk_keep hb (by (repeat (first | assumption | exact bk_new _ _ (by simp) | refine bk_drew ?_ | refine bk_alloc ?_ _ | refine bk_set ?_ (by simp <;> omega) _))); have C1 := bk3 B1) | (go_at_call 20; refine (hS.out _).mono ?_; rintro e w2 ⟨rfl, hb⟩; have hbw := via (by go_grown : Below w.heap.size w _) hb; replace B0 := bk_keep hb B0; replace C0 := bk3 B0; replace B1 := bk_keep hb B1; replace C1 := bk3 B1) | (go_at_call 22; refine (hC.out _ hbw).mono ?_; rintro e w3 ⟨⟨A3, c3, rfl, hat3, hc3⟩, hb⟩; have hbw := via (by go_grown : Below w.heap.size w _) hb; replace B0 := bk_keep hb B0; replace C0 := bk3 B0; replace B1 := bk_keep hb B1; replace C1 := bk3 B1) | (go_at_call 40; refine (hV.out _ _ _ hc3 hat3).mono ?_; rintro e w4 ⟨⟨A4, c4, rfl, hat4⟩, hb⟩; have hbw := via (by go_grown : Below w.heap.size w _) hb; replace B0 := bk_keep hb B0; replace C0 := bk3 B0; replace B1 := bk_keep hb B1; replace C1 := bk3 B1))
    have hz0 := bk_size B0
    have hz1 := bk_size B1
    apply region_copy w 1 3 7 8 30 32 9 (CaskT s bung ss n) ((.tuple #[.agg #[.string { data := #[] }, .int .i64 0, .int .i64 0, .int .i64 0], .int .i64 E])) (.cells #[.string { data := #[] }, .int .i64 0, .int .i64 0, .int .i64 0] 73 (0, 0)) (.cells #[.string { data := #[] }, .int .i64 0, .int .i64 0, .int .i64 0] 73 (0, 0))
    case hm => kernel_rfl
    case hB => kernel_rfl
    case hB' => kernel_rfl
    case hS => kernel_rfl
    case hN => kernel_rfl
    case hw => exact hbw
    case hst => exact (caskT_stable s bung ss n)
    case hal => intro o ho; simp at ho; subst ho; intro a x; kernel_rfl
    case hq =>
      intro u hu hgc hbx hbX
      have E0 := bk3 (bk_keep hu B0)
      have E1 := bk3 (bk_keep hu B1)
      simp only [dummyC, struck, yieldsC, Nat.reduceAdd, Nat.reduceBEq, Nat.zero_add, Bool.or_false, Bool.or_true, Bool.false_or, Bool.true_or, Bool.false_eq_true, if_true, if_false, Bool.or_self]
      repeat (go_big_quiet_step (fail))
      exact wpQuiet_nil rfl
    case hcp =>
      intro o ho x hx hw
      simp at ho
      subst ho
      exact ⟨22, #[.agg #[.string s, .int .i64 bung, .slice A n c]], by kernel_rfl, (hC.out x hw).mono fun e x' ⟨⟨A', c', he, ha, hc⟩, hb⟩ => ⟨_, he, ⟨A', c', rfl, ha, hc⟩, hb⟩⟩
    case hcl =>
      intro o ho V x hx hw hp
      simp at ho
      subst ho
      obtain ⟨A', c', rfl, ha, hc⟩ := hp
      exact ⟨41, #[.agg #[.string s, .int .i64 bung, .slice A' n c'], .agg #[.int .i64 day, .int .i64 dip, .int .i64 wrong]], by kernel_rfl, hG.out x A' c' hc ha⟩
    case hsto =>
      intro o ho B x hx hB hz
      simp at ho
      subst ho
      have Cz := bk4 hz
      refine ⟨(((x.setCell ⟨B, 0, none⟩ (.string { data := #[] })).setCell ⟨B, 1, none⟩ (.int .i64 0)).setCell ⟨B, 2, none⟩ (.int .i64 0)).setCell ⟨B, 3, none⟩ (.int .i64 0), by simp [execOp, go_sem, Act.put, Cz], below_in (below_in (below_in (below_in hx hB _) hB _) hB _) hB _, bk_here (bk_here (bk_here (bk_here hz _ rfl) _ rfl) _ rfl) _ rfl⟩
    case h =>
      intro B V x hB hx hw hz
      simp only [Act.put, List.setIfInBounds_toArray, List.set_cons_succ, List.set_cons_zero]
      have hbw := hw
      have C2 := bk4 hz
      have B2 := hz
      replace B0 := bk_keep hx B0
      replace B1 := bk_keep hx B1
      clear C0 C1 hz
      have C0 := bk3 B0
      have C1 := bk3 B1
      replace hat4 := At.below hat4 hx
      go_wp2_with (first | (go_at_call 23; refine (hE.out _ hbw).mono ?_; rintro e w6 ⟨rfl, hb⟩; have hbw := via (by go_grown : Below w.heap.size w _) hb; replace B0 := bk_keep hb B0; replace C0 := bk3 B0; replace B1 := bk_keep hb B1; replace C1 := bk3 B1; replace B2 := bk_keep hb B2; replace C2 := bk4 B2; replace hat4 := At.below hat4 hb))
      go_ret
      exact ⟨rfl, by go_grown⟩
  have hR := hErr.out hz
  rw [fromDipV_right hz hR] at hG
  rw [hz] at hV hE
  have hT := Lib.hid fun W (hw : Below w.heap.size w W) => refTableOf_any s bung A ss c step W hR (At.below hat'.out hw)
  have hU := Lib.hid fun W (hw : Below w.heap.size w W) => refFromDip_any s bung A ss c day dip wrong W hR (At.below hat'.out hw)
  rw [hn0'.out] at hT hU
  generalize refFromV s bung ss day dip wrong = Y at *
  obtain ⟨⟨rc, rd, rl, rh⟩, re⟩ := Y
  unfold rdv at hG hU
  dsimp only at hG hU
  have hX := Lib.hid fun W => refTableOf_bad s bung A n c step W
  have z4 : (re == re) = true := by simp
  obtain ⟨l, te, hlen, hV2, hT2⟩ : ∃ (l : List (Int × Int × Int)) (te : Int), l.length ≤ 1000 ∧ Hid (∀ W A' c', n ≤ c' → At 3 St.cs W A' ss → Calls Try.prog 40 #[.agg #[.string s, .int .i64 bung, .slice A' n c'], .int .i64 step] W fun e w' => RetRows W l te e w') ∧
      Hid (∀ W, Below w.heap.size w W → Calls Try.prog 42 #[.agg #[.string s, .int .i64 bung, .slice A n c], .int .i64 step] W fun e w' => RetRows W l te e w') := by
    cases hst : within step 10 800
    · refine ⟨[], 2, by simp, fun W A' c' h1 h2 => ?_, fun W _ => hX.out W hst⟩
      have := hV.out W A' c' h1 h2
      rw [hst] at this
      exact this
    · refine ⟨tabV bung ss step, 0, ?_, fun W A' c' h1 h2 => ?_, fun W hw => hT.out W hw hst⟩
      · have := tabGo_len bung ss step 200 0
        unfold tabV
        omega
      · have := hV.out W A' c' h1 h2
        rw [hst] at this
        exact this
  have z5 : (te == te) = true := by simp
  have hSame := Lib.hid fun W A A2 c c2 h1 h2 => sameRows_any A A2 l c c2 W hlen h1 h2
  clear hV hT hX hR hErr hz hat' hn0 hn0'
  go_enter Try.func10, Try.ntmps10
  go_wp2_with (first | (go_at_call 15; refine (awake_any _).mono ?_; rintro e w1 ⟨rfl, hb⟩; have hbw := via (by go_grown : Below w.heap.size w _) hb; have B0 : w1.heap[w.heap.size]? = some (.cells #[.string s, .int .i64 bung, .slice A n c] 34 (0, 0)) := bk_keep hb (by (repeat (first | assumption | exact bk_new _ _ (by simp) | refine bk_drew ?_ | refine bk_alloc ?_ _ | refine bk_set ?_ (by simp <;> omega) _))); have C0 := bk3 B0; have B1 : w1.heap[w.heap.size + 1]? = some (.cells #[.int .i64 day, .int .i64 dip, .int .i64 wrong] 77 (0, 0)) := bk_keep hb (by (repeat (first | assumption | exact bk_new _ _ (by simp) | refine bk_drew ?_ | refine bk_alloc ?_ _ | refine bk_set ?_ (by simp <;> omega) _))); have C1 := bk3 B1) | (go_at_call 20; refine (hS.out _).mono ?_; rintro e w2 ⟨rfl, hb⟩; have hbw := via (by go_grown : Below w.heap.size w _) hb; replace B0 := bk_keep hb B0; replace C0 := bk3 B0; replace B1 := bk_keep hb B1; replace C1 := bk3 B1) | (go_at_call 22; refine (hC.out _ hbw).mono ?_; rintro e w3 ⟨⟨A3, c3, rfl, hat3, hc3⟩, hb⟩; have hbw := via (by go_grown : Below w.heap.size w _) hb; replace B0 := bk_keep hb B0; replace C0 := bk3 B0; replace B1 := bk_keep hb B1; replace C1 := bk3 B1) | (go_at_call 40; refine (hV2.out _ _ _ hc3 hat3).mono ?_; rintro e w4 ⟨⟨A4, c4, rfl, hat4⟩, hb⟩; have hbw := via (by go_grown : Below w.heap.size w _) hb; replace B0 := bk_keep hb B0; replace C0 := bk3 B0; replace B1 := bk_keep hb B1; replace C1 := bk3 B1))
  have hz0 := bk_size B0
  have hz1 := bk_size B1
  apply region_copy w 1 3 7 8 30 32 9 (CaskT s bung ss n) ((.tuple #[.agg #[.string rc, .int .i64 rd, .int .i64 rl, .int .i64 rh], .int .i64 re])) (.cells #[.string { data := #[] }, .int .i64 0, .int .i64 0, .int .i64 0] 73 (0, 0)) (.cells #[.string rc, .int .i64 rd, .int .i64 rl, .int .i64 rh] 73 (0, 0))
  case hm => kernel_rfl
  case hB => kernel_rfl
  case hB' => kernel_rfl
  case hS => kernel_rfl
  case hN => kernel_rfl
  case hw => exact hbw
  case hst => exact (caskT_stable s bung ss n)
  case hal => intro o ho; simp at ho; subst ho; intro a x; kernel_rfl
  case hq =>
    intro u hu hgc hbx hbX
    have E0 := bk3 (bk_keep hu B0)
    have E1 := bk3 (bk_keep hu B1)
    simp only [dummyC, struck, yieldsC, Nat.reduceAdd, Nat.reduceBEq, Nat.zero_add, Bool.or_false, Bool.or_true, Bool.false_or, Bool.true_or, Bool.false_eq_true, if_true, if_false, Bool.or_self]
    repeat (go_big_quiet_step (fail))
    exact wpQuiet_nil rfl
  case hcp =>
    intro o ho x hx hw
    simp at ho
    subst ho
    exact ⟨22, #[.agg #[.string s, .int .i64 bung, .slice A n c]], by kernel_rfl, (hC.out x hw).mono fun e x' ⟨⟨A', c', he, ha, hc⟩, hb⟩ => ⟨_, he, ⟨A', c', rfl, ha, hc⟩, hb⟩⟩
  case hcl =>
    intro o ho V x hx hw hp
    simp at ho
    subst ho
    obtain ⟨A', c', rfl, ha, hc⟩ := hp
    exact ⟨41, #[.agg #[.string s, .int .i64 bung, .slice A' n c'], .agg #[.int .i64 day, .int .i64 dip, .int .i64 wrong]], by kernel_rfl, hG.out x A' c' hc ha⟩
  case hsto =>
    intro o ho B x hx hB hz
    simp at ho
    subst ho
    have Cz := bk4 hz
    refine ⟨(((x.setCell ⟨B, 0, none⟩ (.string rc)).setCell ⟨B, 1, none⟩ (.int .i64 rd)).setCell ⟨B, 2, none⟩ (.int .i64 rl)).setCell ⟨B, 3, none⟩ (.int .i64 rh), by simp [execOp, go_sem, Act.put, Cz], below_in (below_in (below_in (below_in hx hB _) hB _) hB _) hB _, bk_here (bk_here (bk_here (bk_here hz _ rfl) _ rfl) _ rfl) _ rfl⟩
  case h =>
    intro B V x hB hx hw hz
    simp only [Act.put, List.setIfInBounds_toArray, List.set_cons_succ, List.set_cons_zero]
    have hbw := hw
    have C2 := bk4 hz
    have B2 := hz
    replace B0 := bk_keep hx B0
    replace B1 := bk_keep hx B1
    clear C0 C1 hz
    have C0 := bk3 B0
    have C1 := bk3 B1
    replace hat4 := At.below hat4 hx
    go_wp2_with (first | (go_at_call 23; refine (hE.out _ hbw).mono ?_; rintro e w6 ⟨rfl, hb⟩; have hbw := via (by go_grown : Below w.heap.size w _) hb; replace B0 := bk_keep hb B0; replace C0 := bk3 B0; replace B1 := bk_keep hb B1; replace C1 := bk3 B1; replace B2 := bk_keep hb B2; replace C2 := bk4 B2; replace hat4 := At.below hat4 hb) | (go_at_call 42; refine (hT2.out _ hbw).mono ?_; rintro e w7 ⟨⟨A7, c7, rfl, hat7⟩, hb⟩; have hbw := via (by go_grown : Below w.heap.size w _) hb; replace B0 := bk_keep hb B0; replace C0 := bk3 B0; replace B1 := bk_keep hb B1; replace C1 := bk3 B1; replace B2 := bk_keep hb B2; replace C2 := bk4 B2; replace hat4 := At.below hat4 hb) | (go_at_call 43; refine (hU.out _ hbw).mono ?_; rintro e w8 ⟨rfl, hb⟩; have hbw := via (by go_grown : Below w.heap.size w _) hb; replace B0 := bk_keep hb B0; replace C0 := bk3 B0; replace B1 := bk_keep hb B1; replace C1 := bk3 B1; replace B2 := bk_keep hb B2; replace C2 := bk4 B2; replace hat4 := At.below hat4 hb; replace hat7 := At.below hat7 hb) | (go_at_call 44; refine (hSame.out _ _ _ _ _ (hat4.alloc _) (hat7.alloc _)).mono ?_; rintro e w9 ⟨rfl, hb⟩; have hbw := via (by go_grown : Below w.heap.size w _) hb; have B3 : w9.heap[w8.heap.size]? = some (.cells #[.string rc, .int .i64 rd, .int .i64 rl, .int .i64 rh] 73 (0, 0)) := bk_keep hb (by (repeat (first | assumption | exact bk_new _ _ (by simp) | refine bk_drew ?_ | refine bk_alloc ?_ _ | refine bk_set ?_ (by simp <;> omega) _))); have C3 := bk4 B3; replace B2 := bk_keep hb (bk_alloc B2 _); replace C2 := bk4 B2))
    go_ret
    exact ⟨rfl, by go_grown⟩
end Go.Proofs
