import Derived.Test.YtmnjoamkaapjcaaGreatMg7
import Derived.Test.YtmnjoamkaapjcaaGreatMg2
import Derived.Test.YtmnjoamkaapjcaaGreatMg8
import Derived.Test.YtmnjoamkaapjcaaGreatMg36
import Derived.Test.YtmnjoamkaapjcaaGreatMg37
set_option linter.unusedSimpArgs false
set_option linter.unusedVariables false
namespace Go.Proofs
open Go.RowKit

theorem take_eq_step {a b : List Int} {k : Nat} {x y : Int} (ha : a[k]? = some x) (hb : b[k]? = some y) (h : a.take k = b.take k) (e : x = y) : a.take (k + 1) = b.take (k + 1) := by
  rw [List.take_add_one, List.take_add_one, ha, hb, h, e]
set_option maxRecDepth 100000 in
set_option maxHeartbeats 1000000 in
/-- Whether two lists of numbers are the same. -/
theorem ints_any (A B : Option Addr) (a b : List Int) (ca cb : Nat) (w : World) (hl : a.length ≤ 9223372036854775807) (hm : b.length ≤ 9223372036854775807) (hat : At 1 Ic w A a) (hbt : At 1 Ic w B b) :
    Calls Tryz.prog 14 #[.slice A a.length ca, .slice B b.length cb] w fun e w' => e = .returned (.bool (a == b)) ∧ Below w.heap.size w w' := by
  obtain ⟨R, hR⟩ : ∃ R, (a == b) = R := ⟨_, rfl⟩
  have hR' := Lib.hid hR
  rw [hR]
  clear hR
  have hat' := Lib.hid hat
  have hbt' := Lib.hid hbt
  clear hat hbt
  by_cases hlen : a.length = b.length
  case neg =>
    have hF : R = false := by
      rw [← hR'.out, beq_eq_false_iff_ne]
      exact fun e => hlen (by rw [e])
    subst hF
    have hlI : ((a.length : Int) != (b.length : Int)) = true := by
      rw [bne_iff_ne]; omega
    go_enter Tryz.func14, Tryz.ntmps14
    go_wp2
    go_ret
    exact ⟨rfl, by go_grown⟩
  have hlI : ((a.length : Int) != (b.length : Int)) = false := by
    rw [bne_eq_false_iff_eq]; omega
  go_enter Tryz.func14, Tryz.ntmps14
  go_wp2
  go_loopw [5] (fun i wr => ∃ k : Nat, k ≤ a.length ∧ i = .int .i64 k ∧ Hid (a.take k = b.take k) ∧ Below w.heap.size w wr) (fun i _ => a.length - (intOf i).toNat)
  case atStart => exact ⟨0, Nat.zero_le _, rfl, by unfold Hid; simp, by go_grown⟩
  case round =>
    obtain ⟨k, hk, rfl, hno, hbw⟩ := hrel
    by_cases hlt : k < a.length
    · obtain ⟨x, hx⟩ : ∃ x, a[k]? = some x := ⟨_, List.getElem?_eq_getElem hlt⟩
      obtain ⟨y, hy⟩ : ∃ y, b[k]? = some y := ⟨_, List.getElem?_eq_getElem (by omega)⟩
      obtain ⟨p, o, rfl, hbl, hc⟩ := (hat'.out.below hbw) k x hx
      obtain ⟨p', o', rfl, hbl', hc'⟩ := (hbt'.out.below hbw) k y hy
      have c0 := hc 0 _ rfl
      have d0 := hc' 0 _ rfl
      simp only [Nat.add_zero, Nat.mul_one] at c0 d0
      have hkI : (k : Int) < (a.length : Int) := by omega
      have hkJ : (k : Int) < (b.length : Int) := by omega
      have hx' := Lib.hid hx
      have hy' := Lib.hid hy
      clear hc hy hc' hx
      cases hq : (x != y)
      case true =>
        have hF : R = false := by
          rw [← hR'.out, beq_eq_false_iff_ne]
          intro e
          have h1 := hx'.out
          rw [e, hy'.out] at h1
          injection h1 with h1
          exact (bne_iff_ne.1 hq) h1.symm
        subst hF
        go_wp2
        refine region_all wr (by kernel_rfl) (by kernel_rfl) (by go_grown) ?_
        intro hgc hbx
        repeat (go_big_quiet_step (fail))
        refine wpQuiet_nil ?_
        intro w3 hb3 hbw3 hsz3
        clear hgc hbx
        have hbw4 := via hbw hb3
        go_wp2
        go_ret
        exact ⟨rfl, hbw4⟩
      case false =>
        have hgo : Hid (a.take (k + 1) = b.take (k + 1)) := take_eq_step hx'.out hy'.out hno.out (by simpa using hq)
        go_wp2
        refine region_all wr (by kernel_rfl) (by kernel_rfl) (by go_grown) ?_
        intro hgc hbx
        repeat (go_big_quiet_step (fail))
        refine wpQuiet_nil ?_
        intro w3 hb3 hbw3 hsz3
        clear hgc hbx
        have hbw4 := via hbw hb3
        go_wp2
        go_roundw
        case rel => exact ⟨k + 1, by omega, by go_num, hgo, hbw4⟩
        case measure => simp [intOf]; omega
    · have hT : R = true := by
        rw [← hR'.out, beq_iff_eq]
        have := hno.out
        rwa [List.take_of_length_le (by omega), List.take_of_length_le (by omega)] at this
      subst hT
      have hlI : ¬ (k : Int) < (a.length : Int) := by omega
      go_wp2
      go_ret
      exact ⟨rfl, hbw⟩
end Go.Proofs

set_option linter.unusedSimpArgs false
set_option linter.unusedVariables false
namespace Go.Proofs
open Go.RowKit

/-- Blamed of a wrong book. -/
theorem blamed_bad (l0 l1 : Int) (A A2 : Option Addr) (rs : List Rd) (ms : List Mv) (c c2 : Nat) (w : World)
    (hs : ∀ x ∈ rs, x.c.size ≤ 9223372036854775807) (hat : At 4 Rd.cs w A rs)
    (hs2 : ∀ x ∈ ms, x.f.size ≤ 9223372036854775807 ∧ x.t.size ≤ 9223372036854775807) (hat2 : At 4 Mv.cs w A2 ms) (hok : (checkB l0 l1 rs ms).2 ≠ 0) :
    Calls Tryz.prog 6 #[.agg #[.int .i64 l0, .int .i64 l1, .slice A rs.length c, .slice A2 ms.length c2]] w fun e w' =>
      e = .returned (.tuple #[.slice none 0 0, .int .i64 (checkB l0 l1 rs ms).2]) ∧ Below w.heap.size w w' := by
  have hO := Lib.hid fun W hb => openBook_any l0 l1 A A2 rs ms c c2 W hs (hat.below hb) hs2 (hat2.below hb)
  generalize (checkB l0 l1 rs ms).2 = E at *
  have z2 : (E != 0) = true := by simpa using hok
  clear hs hs2 hat hat2 hok
  go_enter Tryz.func6, Tryz.ntmps6
  go_wp2_with (first | (go_at_call 24; refine (hO.out _ ?_).mono ?_; (· go_grown); rintro e w1 ⟨rfl, hb⟩; have hbw := via (by go_grown : Below w.heap.size w _) hb; have hsw := hbw.size))
  refine bodyPost_ret (v := .tuple #[.slice none 0 0, .int .i64 E]) ?_ rfl ⟨rfl, by go_grown⟩
  simp [results, Tryz.results6, go_sem]
theorem copyInts_at (A : Option Addr) (l : List Int) (c : Nat) (w : World) (hl : l.length ≤ 1000) (hat : At 1 Ic w A l) :
    Calls Tryz.prog 9 #[.slice A l.length c] w fun e w' => (∃ A' c', e = .returned (.slice A' l.length c') ∧ At 1 Ic w' A' l) ∧ Below w.heap.size w w' := by
  refine (copyInts_any A l c w hl hat).mono ?_
  rintro e w' ⟨⟨v, rfl, hv⟩, hb⟩
  obtain ⟨A', c', rfl, h⟩ := at_of_owns (cs := Ic) (sz := 1) (fun _ => rfl) hv
  exact ⟨⟨A', c', rfl, h⟩, hb⟩
theorem beq_list (L : List Int) : (L == L) = true := by simp
theorem firstE_two {a b : Int} (h : a ≠ 0) : firstE [a, b] = a := by simp [firstE, h]
theorem firstE_three {a b c : Int} (h : a ≠ 0) : firstE [a, b, c] = a := by simp [firstE, h]
set_option maxRecDepth 100000 in
set_option maxHeartbeats 20000000 in
theorem gaugeBlames_walk (w : World) (l0 l1 : Int) (A A2 : Option Addr) (rs : List Rd) (ms : List Mv) (c c2 : Nat) (hat : At 4 Rd.cs w A rs) (hs : ∀ x ∈ rs, x.c.size ≤ maxLen) (hat2 : At 4 Mv.cs w A2 ms) (hs2 : ∀ x ∈ ms, x.f.size ≤ maxLen ∧ x.t.size ≤ maxLen)
    (B : Option Addr) (l : List Int) (cl : Nat) (hatl : At 1 Ic w B l) :
    Calls Tryz.prog 3 #[.agg #[.int .i64 l0, .int .i64 l1, .slice A rs.length c, .slice A2 ms.length c2], .slice B l.length cl] w fun e w' => e = .returned (.bool true) ∧ Below w.heap.size w w' := by
  unfold maxLen at hs hs2
  have hFew := Lib.hid fun W (hb : Below w.heap.size w W) => few8_any l0 l1 A A2 rs ms c c2 W hs (hat.below hb) hs2 (hat2.below hb)
  have hCpy := Lib.hid fun (h1 : rs.length ≤ 1000) (h2 : ms.length ≤ 1000) W (hb : Below w.heap.size w W) => copyBook_any l0 l1 A A2 rs ms c c2 W h1 h2 (hat.below hb) (hat2.below hb)
  have hCI := Lib.hid fun (hl : l.length ≤ 1000) W (hb : Below w.heap.size w W) => copyInts_at B l cl W hl (hatl.below hb)
  have hBE := Lib.hid fun W (hb : Below w.heap.size w W) => refBookErr_any l0 l1 A A2 rs ms c c2 W hs (hat.below hb) hs2 (hat2.below hb)
  have hWo := Lib.hid fun (hn : rs.length ≤ 1000) (hm : ms.length ≤ 1000) (hl : l.length ≤ 1000) A A2 c c2 B cl W h1 h2 h3 => gWithout_any l0 l1 A A2 rs ms c c2 B l cl W hs hs2 hn hm hl h1 h2 h3
  have hCb := Lib.hid fun (hn : rs.length ≤ 1000) (hm : ms.length ≤ 1000) (l : List Int) (hl : l.length ≤ 1000) A A2 c c2 B cl W h1 h2 h3 => checkBlamed_any l0 l1 A A2 rs ms c c2 B l cl W hs hs2 hn hm hl h1 h2 h3
  have hBl := Lib.hid fun (hok : (checkB l0 l1 rs ms).2 = 0) (h8 : rs.length ≤ 8) A A2 c c2 W h1 h2 => blamed_any l0 l1 A A2 rs ms c c2 W hs h1 hs2 h2 hok h8
  have hBb := Lib.hid fun (hok : (checkB l0 l1 rs ms).2 ≠ 0) A A2 c c2 W h1 h2 => blamed_bad l0 l1 A A2 rs ms c c2 W hs h1 hs2 h2 hok
  have hRb := Lib.hid fun (hok : (checkB l0 l1 rs ms).2 = 0) (h8 : rs.length ≤ 8) W (hb : Below w.heap.size w W) => refBlamed_any l0 l1 A A2 rs ms c c2 W (hat.below hb) (hat2.below hb) hok h8
  have hLr := Lib.hid fun (hn : rs.length ≤ 1000) (hl : l.length ≤ 1000) W (hb : Below w.heap.size w W) => listErr_any l0 l1 A A2 rs.length c ms.length c2 B l cl W hn hl (hatl.below hb)
  have hRw := Lib.hid fun (hn : rs.length ≤ 1000) (hm : ms.length ≤ 1000) (hl : l.length ≤ 1000) W (hb : Below w.heap.size w W) => refWithout_any l0 l1 A A2 rs ms c c2 B l cl W hn hm hl (hat.below hb) (hat2.below hb) (hatl.below hb)
  have hRp := Lib.hid fun (hok : (checkB l0 l1 rs ms).2 = 0) A A2 c c2 W h1 h2 => refPairs_any l0 l1 A A2 (wo rs l) ms c c2 W (wo_right (right_of hok) l) h1 h2
  have hSz := Lib.hid fun W => sameBook_any 0 0 none none none none [] [] 0 0 0 0 W (by simp) (by simp) (fun k x hx => by simp at hx) (fun k x hx => by simp at hx) (fun k x hx => by simp at hx) (fun k x hx => by simp at hx)
  have hSm := Lib.hid fun (hn : rs.length ≤ 1000) (hm : ms.length ≤ 1000) A A2 A' A2' c c2 c' c2' W h1 h2 h3 h4 => sameBook_any l0 l1 A A2 A' A2' (wo rs l) ms c c2 c' c2' W (Nat.le_trans (wo_len' rs l) hn) hm h1 h2 h3 h4
  have hCL := Lib.hid fun (L : List Int) (hL : L.length ≤ 1000) A c W h => copyInts_at A L c W hL h
  have hIn := Lib.hid fun (L : List Int) (hL : L.length ≤ 1000) A B ca cb W h1 h2 => ints_any A B L L ca cb W (by omega) (by omega) h1 h2
  have hwp := Lib.hid (wo_pairs (l0 := l0) (l1 := l1) (rs := rs) (ms := ms) (l := l))
  have hPi := pairs_in (l0 := l0) (l1 := l1) (rs := rs) (ms := ms)
  have hBc := Lib.hid (blamed_cov hPi)
  have hBlst := Lib.hid (blamed_lst (allPairs l0 l1 rs ms) rs.length)
  have hBle := Lib.hid fun (h : cov (allPairs l0 l1 rs ms) l = true) => blamed_least hPi h
  have hN40 : Hid ((checkB l0 l1 rs ms).2 = 0 → rs.length ≤ 40) := fun h => (right_of h).rn
  have hBlen := Lib.hid (blamed_len (allPairs l0 l1 rs ms) rs.length)
  clear hPi
  generalize (checkB l0 l1 rs ms).2 = E1 at *
  generalize allPairs l0 l1 rs ms = P at *
  generalize allPairs l0 l1 (wo rs l) ms = P2 at *
  obtain ⟨rs', hrs'⟩ : ∃ rs', wo rs l = rs' := ⟨_, rfl⟩
  rw [hrs'] at hRw hRp hSm
  unfold WoGot at hWo
  rw [hrs'] at hWo
  unfold CopyGot at hRw hCpy
  clear hrs'
  obtain ⟨n, hn⟩ : ∃ n, rs.length = n := ⟨_, rfl⟩
  obtain ⟨m, hm⟩ : ∃ n, ms.length = n := ⟨_, rfl⟩
  obtain ⟨q, hq⟩ : ∃ n, l.length = n := ⟨_, rfl⟩
  have hn' := Lib.hid hn
  have hq' := Lib.hid hq
  rw [hn, hm, hq]
  rw [hn] at hFew hCpy hBE hWo hCb hBl hBb hRb hLr hRw hSm hBc hBlst hBle hBlen hN40
  rw [hm] at hFew hCpy hBE hWo hCb hBl hBb hRb hLr hRw hRp hSm
  rw [hq] at hCI hWo hLr hRw hBle
  clear hs hs2 hat hat2 hatl
  go_enter Tryz.func3, Tryz.ntmps3
  go_wp2_with (first | (go_at_call 4; refine (awake_any _).mono ?_; rintro e w1 ⟨rfl, hb⟩; have hbw := via (by go_grown : Below w.heap.size w _) hb; have B0 : w1.heap[w.heap.size]? = some (.cells #[.int .i64 l0, .int .i64 l1, .slice A n c, .slice A2 m c2] 27 (0, 0)) := bk_keep hb (by (repeat (first | assumption | (refine bk_new _ _ ?_; (simp; done)) | refine bk_drew ?_ | refine bk_alloc ?_ _ | refine bk_set ?_ (by simp <;> omega) _))); have C0 := bk4 B0))
  refine (hFew.out _ hbw).mono ?_
  rintro e w2 ⟨⟨r, rfl, hr⟩, hb⟩
  (replace hbw := via hbw hb; replace B0 := bk_keep hb B0; replace C0 := bk4 B0)
  cases r with
  | false =>
    clear hr
    go_wp2_with fail
    refine bodyPost_ret (v := .bool true) ?_ rfl ⟨rfl, hbw⟩
    simp [results, Tryz.results3, go_sem]
  | true =>
  obtain ⟨g0, g1, g2, -, -⟩ := hr rfl
  rw [hn] at g0 g1
  rw [hm] at g2
  clear hr hFew hn hm hq
  by_cases h10 : 10 < (q : Int)
  · go_wp2_with fail
    refine bodyPost_ret (v := .bool true) ?_ rfl ⟨rfl, hbw⟩
    simp [results, Tryz.results3, go_sem]
  have hq1000 : q ≤ 1000 := by omega
  have hn1000 : n ≤ 1000 := by omega
  have hm1000 : m ≤ 1000 := by omega
  replace hCpy := Lib.hid (hCpy.out hn1000 hm1000)
  replace hCI := Lib.hid (hCI.out hq1000)
  replace hWo := Lib.hid (hWo.out hn1000 hm1000 hq1000)
  replace hCb := Lib.hid (hCb.out hn1000 hm1000)
  replace hLr := Lib.hid (hLr.out hn1000 hq1000)
  replace hRw := Lib.hid (hRw.out hn1000 hm1000 hq1000)
  replace hSm := Lib.hid (hSm.out hn1000 hm1000)
  have hCl := Lib.hid (hCb.out l (by rw [hq'.out]; exact hq1000))
  rw [hq'.out] at hCl
  generalize lstE n none l = E2 at *
  by_cases hE1 : E1 ≠ 0
  · replace hBb := Lib.hid (hBb.out hE1)
    have hWoB := Lib.hid fun A A2 c c2 B cl W h1 h2 h3 => (hWo.out A A2 c c2 B cl W h1 h2 h3).mono (R' := fun e w' => e = .returned (.tuple #[.agg #[.int .i64 0, .int .i64 0, .slice none 0 0, .slice none 0 0], .int .i64 E1]) ∧ Below W.heap.size W w') (fun e w' ⟨h, hb⟩ => ⟨by
      rw [firstE_two hE1] at h
      rcases h with ⟨-, h⟩ | ⟨h, -⟩
      · exact h
      · exact absurd h hE1, hb⟩)
    have hClB := hCl
    rw [firstE_three hE1] at hClB
    have z0 : (E1 != 0) = true := by simpa using hE1
    clear hWo hCl hCb hBl hRb hLr hRw hRp hSm hIn hCL hwp hBc hBlst hBle hBlen hE1
    go_wp2_with (first | (go_at_call 7; refine (hCpy.out _ hbw).mono ?_; rintro e w3 ⟨⟨A5, c5, A6, c6, rfl, h5, h6⟩, hb⟩; (replace hbw := via hbw hb; replace B0 := bk_keep hb B0; replace C0 := bk4 B0)) | (go_at_call 6; refine (hBb.out _ _ _ _ _ h5 h6).mono ?_; rintro e w4 ⟨rfl, hb⟩; (replace hbw := via hbw hb; replace B0 := bk_keep hb B0; replace C0 := bk4 B0)) | (go_at_call 9; refine (hCI.out _ hbw).mono ?_; rintro e w5 ⟨⟨A8, c8, rfl, h8⟩, hb⟩; (replace hbw := via hbw hb; replace B0 := bk_keep hb B0; replace C0 := bk4 B0); replace h5 := At.below h5 hb; replace h6 := At.below h6 hb) | (go_at_call 8; refine (hWoB.out _ _ _ _ _ _ _ h5 h6 h8).mono ?_; rintro e w6 ⟨rfl, hb⟩; (replace hbw := via hbw hb; replace B0 := bk_keep hb B0; replace C0 := bk4 B0)))
    refine (hCpy.out _ (via_alloc hbw _)).mono ?_
    rintro e w3 ⟨⟨A5, c5, A6, c6, rfl, h5, h6⟩, hb⟩
    have DX : w3.heap[w6.heap.size]? = some (.cells #[.int .i64 0, .int .i64 0, .slice none 0 0, .slice none 0 0] 27 (0, 0)) := bk_keep hb (bk_new _ _ rfl)
    replace B0 := bk_keep hb (bk_alloc B0 _)
    replace hbw := via (via_alloc hbw _) hb
    obtain ⟨X, hX⟩ : ∃ X, w6.heap.size = X := ⟨_, rfl⟩
    rw [hX] at DX ⊢
    clear hX
    have C0 := bk4 B0
    have CX := bk4 DX
    go_wp2_with (first | (go_at_call 9; refine (hCI.out _ hbw).mono ?_; rintro e w5 ⟨⟨A8, c8, rfl, h8⟩, hb⟩; (replace hbw := via hbw hb; replace B0 := bk_keep hb B0; replace C0 := bk4 B0; replace DX := bk_keep hb DX; replace CX := bk4 DX); replace h5 := At.below h5 hb; replace h6 := At.below h6 hb) | (go_at_call 10; refine (hClB.out _ _ _ _ _ _ _ h5 h6 h8).mono ?_; rintro e w7 ⟨rfl, hb⟩; (replace hbw := via hbw hb; replace B0 := bk_keep hb B0; replace C0 := bk4 B0; replace DX := bk_keep hb DX; replace CX := bk4 DX)) | (go_at_call 11; refine (hBE.out _ hbw).mono ?_; rintro e w8 ⟨rfl, hb⟩; (replace hbw := via hbw hb; replace B0 := bk_keep hb B0; replace C0 := bk4 B0; replace DX := bk_keep hb DX; replace CX := bk4 DX)) | (go_at_call 12; refine (hSz.out _).mono ?_; rintro e w9 ⟨rfl, hb⟩; (replace hbw := via hbw hb; replace B0 := bk_keep hb B0; replace C0 := bk4 B0; replace DX := bk_keep hb DX; replace CX := bk4 DX)))
    refine bodyPost_ret (v := .bool true) ?_ rfl ⟨rfl, hbw⟩
    simp [results, Tryz.results3, go_sem]
  · obtain rfl : E1 = 0 := Decidable.not_not.1 hE1
    have hn40 := hN40.out rfl
    have hn8 : n ≤ 8 := by omega
    replace hBl := Lib.hid (hBl.out rfl hn8)
    replace hRb := Lib.hid (hRb.out rfl hn8)
    replace hRp := Lib.hid (hRp.out rfl)
    have hLn := hBlen.out
    have hIn' := Lib.hid (hIn.out (blamedL P n) (by omega))
    have hCb' := Lib.hid (hCb.out (blamedL P n) (by omega))
    have hCL' := Lib.hid (hCL.out (blamedL P n) (by omega))
    have hv : Hid (firstE [0, lstE n none (blamedL P n), unl (cov P (blamedL P n)) 20] = 0) := by unfold Hid; rw [hBlst.out, hBc.out]; rfl
    rw [hv.out] at hCb'
    rw [beq_list] at hIn'
    clear hIn hCb hCL hBc hBlst hBb hv hE1 hN40 hBlen g0
    generalize blamedL P n = L at *
    obtain ⟨k, hk⟩ : ∃ k, L.length = k := ⟨_, rfl⟩
    rw [hk] at hIn' hCb' hCL' hLn hBle
    have hk' := Lib.hid hk
    rw [hk] at hBl hRb
    clear hk
    by_cases hE2 : E2 ≠ 0
    · have hWoB := Lib.hid fun A A2 c c2 B cl W h1 h2 h3 => (hWo.out A A2 c c2 B cl W h1 h2 h3).mono (R' := fun e w' => e = .returned (.tuple #[.agg #[.int .i64 0, .int .i64 0, .slice none 0 0, .slice none 0 0], .int .i64 E2]) ∧ Below W.heap.size W w') (fun e w' ⟨h, hb⟩ => ⟨by
        rw [show firstE [0, E2] = E2 by simp [firstE, hE2]] at h
        rcases h with ⟨-, h⟩ | ⟨h, -⟩
        · exact h
        · exact absurd h hE2, hb⟩)
      have hClB := hCl
      rw [show firstE [0, E2, unl (cov P l) 20] = E2 by simp [firstE, hE2]] at hClB
      have z0 : (E2 != 0) = true := by simpa using hE2
      clear hWo hCl hRw hRp hSm hwp hBle hE2
      go_wp2_with (first | (go_at_call 7; refine (hCpy.out _ hbw).mono ?_; rintro e w3 ⟨⟨A5, c5, A6, c6, rfl, h5, h6⟩, hb⟩; (replace hbw := via hbw hb; replace B0 := bk_keep hb B0; replace C0 := bk4 B0; replace h7 := At.below h7 hb)) | (go_at_call 7; refine (hCpy.out _ hbw).mono ?_; rintro e w3 ⟨⟨A5, c5, A6, c6, rfl, h5, h6⟩, hb⟩; (replace hbw := via hbw hb; replace B0 := bk_keep hb B0; replace C0 := bk4 B0)) | (go_at_call 6; refine (hBl.out _ _ _ _ _ h5 h6).mono ?_; rintro e w4 ⟨⟨A7, c7, rfl, h7⟩, hb⟩; (replace hbw := via hbw hb; replace B0 := bk_keep hb B0; replace C0 := bk4 B0)) | (go_at_call 9; refine (hCI.out _ hbw).mono ?_; rintro e w5 ⟨⟨A8, c8, rfl, h8⟩, hb⟩; (replace hbw := via hbw hb; replace B0 := bk_keep hb B0; replace C0 := bk4 B0; replace h7 := At.below h7 hb); replace h5 := At.below h5 hb; replace h6 := At.below h6 hb) | (go_at_call 8; refine (hWoB.out _ _ _ _ _ _ _ h5 h6 h8).mono ?_; rintro e w6 ⟨rfl, hb⟩; (replace hbw := via hbw hb; replace B0 := bk_keep hb B0; replace C0 := bk4 B0; replace h7 := At.below h7 hb)))
      refine (hCpy.out _ (via_alloc hbw _)).mono ?_
      rintro e w3 ⟨⟨A5, c5, A6, c6, rfl, h5, h6⟩, hb⟩
      have DX : w3.heap[w6.heap.size]? = some (.cells #[.int .i64 0, .int .i64 0, .slice none 0 0, .slice none 0 0] 27 (0, 0)) := bk_keep hb (bk_new _ _ rfl)
      replace B0 := bk_keep hb (bk_alloc B0 _)
      replace h7 := At.below (At.alloc h7 _) hb
      replace hbw := via (via_alloc hbw _) hb
      obtain ⟨X, hX⟩ : ∃ X, w6.heap.size = X := ⟨_, rfl⟩
      rw [hX] at DX ⊢
      clear hX
      have C0 := bk4 B0
      have CX := bk4 DX
      go_wp2_with (first | (go_at_call 9; refine (hCI.out _ hbw).mono ?_; rintro e w5 ⟨⟨A8, c8, rfl, h8⟩, hb⟩; (replace hbw := via hbw hb; replace B0 := bk_keep hb B0; replace C0 := bk4 B0; replace h7 := At.below h7 hb; replace DX := bk_keep hb DX; replace CX := bk4 DX); replace h5 := At.below h5 hb; replace h6 := At.below h6 hb) | (go_at_call 10; refine (hClB.out _ _ _ _ _ _ _ h5 h6 h8).mono ?_; rintro e w7 ⟨rfl, hb⟩; (replace hbw := via hbw hb; replace B0 := bk_keep hb B0; replace C0 := bk4 B0; replace h7 := At.below h7 hb; replace DX := bk_keep hb DX; replace CX := bk4 DX)) | (go_at_call 11; refine (hBE.out _ hbw).mono ?_; rintro e w8 ⟨rfl, hb⟩; (replace hbw := via hbw hb; replace B0 := bk_keep hb B0; replace C0 := bk4 B0; replace h7 := At.below h7 hb; replace DX := bk_keep hb DX; replace CX := bk4 DX)) | (go_at_call 13; refine (hRb.out _ hbw).mono ?_; rintro e w10 ⟨⟨A11, c11, rfl, h11⟩, hb⟩; (replace hbw := via hbw hb; replace B0 := bk_keep hb B0; replace C0 := bk4 B0; replace h7 := At.below h7 hb; replace DX := bk_keep hb DX; replace CX := bk4 DX)) | (go_at_call 14; refine (hIn'.out _ _ _ _ _ h7 h11).mono ?_; rintro e w11 ⟨rfl, hb⟩; (replace hbw := via hbw hb; replace B0 := bk_keep hb B0; replace C0 := bk4 B0; replace h7 := At.below h7 hb; replace DX := bk_keep hb DX; replace CX := bk4 DX)))
      refine (hCpy.out _ hbw).mono ?_
      rintro e w3 ⟨⟨A5, c5, A6, c6, rfl, h5, h6⟩, hb⟩
      (replace hbw := via hbw hb; replace B0 := bk_keep hb B0; replace C0 := bk4 B0; replace h7 := At.below h7 hb; replace DX := bk_keep hb DX; replace CX := bk4 DX)
      clear h8 h11
      go_wp2_with (first | (go_at_call 9; refine (hCL'.out _ _ _ h7).mono ?_; rintro e w5 ⟨⟨A8, c8, rfl, h8⟩, hb⟩; (replace hbw := via hbw hb; replace B0 := bk_keep hb B0; replace C0 := bk4 B0; replace h7 := At.below h7 hb; replace DX := bk_keep hb DX; replace CX := bk4 DX); replace h5 := At.below h5 hb; replace h6 := At.below h6 hb) | (go_at_call 10; refine (hCb'.out _ _ _ _ _ _ _ h5 h6 h8).mono ?_; rintro e w7 ⟨rfl, hb⟩; (replace hbw := via hbw hb; replace B0 := bk_keep hb B0; replace C0 := bk4 B0; replace h7 := At.below h7 hb; replace DX := bk_keep hb DX; replace CX := bk4 DX)) | (go_at_call 15; refine (hLr.out _ hbw).mono ?_; rintro e w12 ⟨rfl, hb⟩; (replace hbw := via hbw hb; replace B0 := bk_keep hb B0; replace C0 := bk4 B0; replace h7 := At.below h7 hb; replace DX := bk_keep hb DX; replace CX := bk4 DX)) | (go_at_call 12; refine (hSz.out _).mono ?_; rintro e w9 ⟨rfl, hb⟩; (replace hbw := via hbw hb; replace B0 := bk_keep hb B0; replace C0 := bk4 B0; replace h7 := At.below h7 hb; replace DX := bk_keep hb DX; replace CX := bk4 DX)))
      refine bodyPost_ret (v := .bool true) ?_ rfl ⟨rfl, hbw⟩
      simp [results, Tryz.results3, go_sem]
    · obtain rfl : E2 = 0 := Decidable.not_not.1 hE2
      obtain ⟨cv, hcv⟩ : ∃ cv, cov P l = cv := ⟨_, rfl⟩
      rw [hcv] at hCl hwp hBle
      have hWoB := Lib.hid fun A A2 c c2 B cl W h1 h2 h3 => (hWo.out A A2 c c2 B cl W h1 h2 h3).mono (R' := fun e w' => (∃ A c A2 c2, e = .returned (.tuple #[.agg #[.int .i64 l0, .int .i64 l1, .slice A rs'.length c, .slice A2 m c2], .int .i64 0]) ∧ At 4 Rd.cs w' A rs' ∧ At 4 Mv.cs w' A2 ms) ∧ Below W.heap.size W w') (fun e w' ⟨h, hb⟩ => ⟨by
        rcases h with ⟨h, -⟩ | ⟨-, h⟩
        · exact absurd rfl h
        · exact h, hb⟩)
      have hClB := hCl
      rw [show firstE [0, 0, unl cv 20] = unl cv 20 by cases cv <;> rfl] at hClB
      obtain ⟨n', hn1⟩ : ∃ n', rs'.length = n' := ⟨_, rfl⟩
      rw [hn1] at hWoB hSm hRw hRp
      obtain ⟨m2, hm2⟩ : ∃ m2, P2.length = m2 := ⟨_, rfl⟩
      have hm20 : (m2 = 0) ↔ cv = true := by
        rw [← hm2, ← hwp.out]
        exact List.length_eq_zero_iff
      rw [hm2] at hRp
      have hq10 : q ≤ 10 := by omega
      clear hWo hCl hwp hE2 hcv hn1 hm2
      go_wp2_with (first | (go_at_call 7; refine (hCpy.out _ hbw).mono ?_; rintro e w3 ⟨⟨A5, c5, A6, c6, rfl, h5, h6⟩, hb⟩; (replace hbw := via hbw hb; replace B0 := bk_keep hb B0; replace C0 := bk4 B0; replace h7 := At.below h7 hb)) | (go_at_call 7; refine (hCpy.out _ hbw).mono ?_; rintro e w3 ⟨⟨A5, c5, A6, c6, rfl, h5, h6⟩, hb⟩; (replace hbw := via hbw hb; replace B0 := bk_keep hb B0; replace C0 := bk4 B0)) | (go_at_call 6; refine (hBl.out _ _ _ _ _ h5 h6).mono ?_; rintro e w4 ⟨⟨A7, c7, rfl, h7⟩, hb⟩; (replace hbw := via hbw hb; replace B0 := bk_keep hb B0; replace C0 := bk4 B0)) | (go_at_call 9; refine (hCI.out _ hbw).mono ?_; rintro e w5 ⟨⟨A8, c8, rfl, h8⟩, hb⟩; (replace hbw := via hbw hb; replace B0 := bk_keep hb B0; replace C0 := bk4 B0; replace h7 := At.below h7 hb); replace h5 := At.below h5 hb; replace h6 := At.below h6 hb) | (go_at_call 8; refine (hWoB.out _ _ _ _ _ _ _ h5 h6 h8).mono ?_; rintro e w6 ⟨⟨A9, c9, A10, c10, rfl, hx1, hx2⟩, hb⟩; (replace hbw := via hbw hb; replace B0 := bk_keep hb B0; replace C0 := bk4 B0; replace h7 := At.below h7 hb)))
      replace hx1 := hx1.alloc (.cells #[.int .i64 l0, .int .i64 l1, .slice A9 n' c9, .slice A10 m c10] 27 (0, 0))
      replace hx2 := hx2.alloc (.cells #[.int .i64 l0, .int .i64 l1, .slice A9 n' c9, .slice A10 m c10] 27 (0, 0))
      refine (hCpy.out _ (via_alloc hbw _)).mono ?_
      rintro e w3 ⟨⟨A5, c5, A6, c6, rfl, h5, h6⟩, hb⟩
      have DX : w3.heap[w6.heap.size]? = some (.cells #[.int .i64 l0, .int .i64 l1, .slice A9 n' c9, .slice A10 m c10] 27 (0, 0)) := bk_keep hb (bk_new _ _ rfl)
      replace B0 := bk_keep hb (bk_alloc B0 _)
      replace h7 := At.below (At.alloc h7 _) hb
      replace hx1 := At.below hx1 hb
      replace hx2 := At.below hx2 hb
      replace hbw := via (via_alloc hbw _) hb
      obtain ⟨X, hX⟩ : ∃ X, w6.heap.size = X := ⟨_, rfl⟩
      rw [hX] at DX ⊢
      clear hX
      have C0 := bk4 B0
      have CX := bk4 DX
      go_wp2_with (first | (go_at_call 9; refine (hCI.out _ hbw).mono ?_; rintro e w5 ⟨⟨A8, c8, rfl, h8⟩, hb⟩; ((replace hbw := via hbw hb; replace B0 := bk_keep hb B0; replace C0 := bk4 B0; replace h7 := At.below h7 hb; replace DX := bk_keep hb DX; replace CX := bk4 DX); replace hx1 := At.below hx1 hb; replace hx2 := At.below hx2 hb); replace h5 := At.below h5 hb; replace h6 := At.below h6 hb) | (go_at_call 10; refine (hClB.out _ _ _ _ _ _ _ h5 h6 h8).mono ?_; rintro e w7 ⟨rfl, hb⟩; ((replace hbw := via hbw hb; replace B0 := bk_keep hb B0; replace C0 := bk4 B0; replace h7 := At.below h7 hb; replace DX := bk_keep hb DX; replace CX := bk4 DX); replace hx1 := At.below hx1 hb; replace hx2 := At.below hx2 hb)) | (go_at_call 11; refine (hBE.out _ hbw).mono ?_; rintro e w8 ⟨rfl, hb⟩; ((replace hbw := via hbw hb; replace B0 := bk_keep hb B0; replace C0 := bk4 B0; replace h7 := At.below h7 hb; replace DX := bk_keep hb DX; replace CX := bk4 DX); replace hx1 := At.below hx1 hb; replace hx2 := At.below hx2 hb)) | (go_at_call 13; refine (hRb.out _ hbw).mono ?_; rintro e w10 ⟨⟨A11, c11, rfl, h11⟩, hb⟩; ((replace hbw := via hbw hb; replace B0 := bk_keep hb B0; replace C0 := bk4 B0; replace h7 := At.below h7 hb; replace DX := bk_keep hb DX; replace CX := bk4 DX); replace hx1 := At.below hx1 hb; replace hx2 := At.below hx2 hb)) | (go_at_call 14; refine (hIn'.out _ _ _ _ _ h7 h11).mono ?_; rintro e w11 ⟨rfl, hb⟩; ((replace hbw := via hbw hb; replace B0 := bk_keep hb B0; replace C0 := bk4 B0; replace h7 := At.below h7 hb; replace DX := bk_keep hb DX; replace CX := bk4 DX); replace hx1 := At.below hx1 hb; replace hx2 := At.below hx2 hb)))
      refine (hCpy.out _ hbw).mono ?_
      rintro e w3 ⟨⟨A5, c5, A6, c6, rfl, h5, h6⟩, hb⟩
      ((replace hbw := via hbw hb; replace B0 := bk_keep hb B0; replace C0 := bk4 B0; replace h7 := At.below h7 hb; replace DX := bk_keep hb DX; replace CX := bk4 DX); replace hx1 := At.below hx1 hb; replace hx2 := At.below hx2 hb)
      clear h8 h11
      go_wp2_with (first | (go_at_call 9; refine (hCL'.out _ _ _ h7).mono ?_; rintro e w5 ⟨⟨A8, c8, rfl, h8⟩, hb⟩; ((replace hbw := via hbw hb; replace B0 := bk_keep hb B0; replace C0 := bk4 B0; replace h7 := At.below h7 hb; replace DX := bk_keep hb DX; replace CX := bk4 DX); replace hx1 := At.below hx1 hb; replace hx2 := At.below hx2 hb); replace h5 := At.below h5 hb; replace h6 := At.below h6 hb) | (go_at_call 10; refine (hCb'.out _ _ _ _ _ _ _ h5 h6 h8).mono ?_; rintro e w7 ⟨rfl, hb⟩; ((replace hbw := via hbw hb; replace B0 := bk_keep hb B0; replace C0 := bk4 B0; replace h7 := At.below h7 hb; replace DX := bk_keep hb DX; replace CX := bk4 DX); replace hx1 := At.below hx1 hb; replace hx2 := At.below hx2 hb)) | (go_at_call 15; refine (hLr.out _ hbw).mono ?_; rintro e w12 ⟨rfl, hb⟩; ((replace hbw := via hbw hb; replace B0 := bk_keep hb B0; replace C0 := bk4 B0; replace h7 := At.below h7 hb; replace DX := bk_keep hb DX; replace CX := bk4 DX); replace hx1 := At.below hx1 hb; replace hx2 := At.below hx2 hb)) | (go_at_call 16; refine (hRw.out _ hbw).mono ?_; rintro e w13 ⟨⟨A13, c13, A14, c14, rfl, hy1, hy2⟩, hb⟩; ((replace hbw := via hbw hb; replace B0 := bk_keep hb B0; replace C0 := bk4 B0; replace h7 := At.below h7 hb; replace DX := bk_keep hb DX; replace CX := bk4 DX); replace hx1 := At.below hx1 hb; replace hx2 := At.below hx2 hb)))
      refine (hSm.out _ _ _ _ _ _ _ _ _ (hx1.alloc _) (hx2.alloc _) (hy1.alloc _) (hy2.alloc _)).mono ?_
      rintro e w14 ⟨rfl, hb⟩
      have DY : w14.heap[w13.heap.size]? = some (.cells #[.int .i64 l0, .int .i64 l1, .slice A13 n' c13, .slice A14 m c14] 27 (0, 0)) := bk_keep hb (bk_new _ _ rfl)
      replace hy1 := At.below (At.alloc hy1 _) hb
      replace hy2 := At.below (At.alloc hy2 _) hb
      replace hbw := via (via_alloc hbw _) hb
      clear B0 C0 DX CX h7 h8 h5 h6 hx1 hx2
      have CY := bk4 DY
      cases cv with
      | true =>
        obtain rfl : m2 = 0 := hm20.2 rfl
        have hkq : (k : Int) ≤ (q : Int) := by have := hBle.out rfl; omega
        rw [show unl true 20 = 0 from rfl]
        go_wp2_with (first | (go_at_call 17; refine (hRp.out _ _ _ _ _ hy1 hy2).mono ?_; rintro e w15 ⟨⟨A15, c15, rfl, -⟩, hb⟩; replace hbw := via hbw hb))
        refine bodyPost_ret (v := .bool true) ?_ rfl ⟨rfl, hbw⟩
        simp [results, Tryz.results3, go_sem]
      | false =>
        have hm0 : (0 : Int) < (m2 : Int) := by
          have : m2 ≠ 0 := fun h => by cases hm20.1 h
          omega
        rw [show unl false 20 = 20 from rfl]
        go_wp2_with (first | (go_at_call 17; refine (hRp.out _ _ _ _ _ hy1 hy2).mono ?_; rintro e w15 ⟨⟨A15, c15, rfl, -⟩, hb⟩; replace hbw := via hbw hb))
        refine bodyPost_ret (v := .bool true) ?_ rfl ⟨rfl, hbw⟩
        simp [results, Tryz.results3, go_sem]
end Go.Proofs
