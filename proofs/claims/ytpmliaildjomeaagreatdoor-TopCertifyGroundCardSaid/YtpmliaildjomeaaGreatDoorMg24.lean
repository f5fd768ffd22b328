import Derived.Test.YtpmliaildjomeaaGreatDoorMg22
import Derived.Test.YtpmliaildjomeaaGreatDoorMg23
import Derived.Test.YtpmliaildjomeaaGreatDoorMg18
set_option linter.unusedSimpArgs false
set_option linter.unusedVariables false
namespace Go.Proofs
open Go.RowKit
set_option linter.unusedVariables false
/-! LeastGround's question of a set of entries. -/
theorem isLess_any2 (k ag n d v : Int) (w : World) (hn : k = 1 → n.natAbs ≤ 9000000000000000) (hd : d.natAbs ≤ 9000000000000000) (hv : v.natAbs ≤ 1000) : Calls Tryz.prog 53 #[.agg #[.int .i64 k, .int .i64 ag], .agg #[.int .i64 n, .int .i64 d], .int .i64 v] w fun e w' =>
    e = .returned (.bool (lessB k n d v)) ∧ Below w.heap.size w w' := by
  unfold lessB
  have hm := abs_mul hv hd
  obtain ⟨y, hy⟩ : ∃ y, v * d = y := ⟨_, rfl⟩
  rw [hy] at hm
  have hw1 : IntKind.i64.wrap (v * d) = y := by rw [hy]; exact IntWalk.i64_in _ (by omega)
  rw [hy]
  clear hy hm
  by_cases hk : k = 1
  · have hn := hn hk
    have hw2 : IntKind.i64.wrap (n * 1000) = n * 1000 := IntWalk.i64_in _ (by omega)
    subst hk
    go_enter Tryz.func53, Tryz.ntmps53
    go_wp2
    go_ret
    exact ⟨ret_bool (by simp), by go_grown⟩
  · have hkb : (k == 1) = false := by simpa using hk
    clear hn
    go_enter Tryz.func53, Tryz.ntmps53
    go_wp2
    go_ret
    exact ⟨ret_bool (by simp [hk]), by go_grown⟩
def standsB (np : Nat) (es : List Ex) (ws : List Int) (k v : Int) : Bool := match solvedL np es ws with
  | none => true
  | some (m, d, _) => !lessB k (dotL ws m) d v
/-- What is known of a found mix, by the entries alone. -/
theorem svOfE {np : Nat} {es : List En} (hR : RightE es np) (h1 : 1 ≤ np) (h5 : np ≤ 5) {ws m : List Int} {d : Int} {p : Prf} (h : solvedL np (exs es) ws = some (m, d, p)) :
    m.length = np ∧ 0 < d ∧ d.natAbs ≤ 1228800000000000 ∧ (∀ x ∈ m, 0 ≤ x) ∧ m.sum = d := by
  obtain ⟨l, hl, -, hm⟩ := solvedL_at h
  rw [exs_len] at hl
  obtain ⟨z1, z2, t1, t2, hzt⟩ := cmb_zt h1 hl
  have hM := mixLP_of hm h1 h5 (fun x hx => by
    obtain ⟨y, hy, rfl⟩ := List.mem_map.1 hx
    exact (hR.co y hy).1) z1 (fun i hi => by rw [exs_len]; exact t1 i hi) hzt
  exact ⟨hM.len, hM.den, mix_small hR hm h5 hzt, hM.nn, hM.sum⟩
set_option maxRecDepth 100000 in
set_option maxHeartbeats 4000000 in
theorem ground1_any (pA eA wA : Option Addr) (np pc en ec wc P1 P2 P3 : Nat) (es : List En) (ws : List Int) (k ag v : Int) (w : World) (hR : RightE es np) (hE : EnsAt w eA es) (hen : es.length = en) (hW : At 1 Zc w wA ws) (hwn : ws.length = np) (h1 : 1 ≤ np) (h5 : np ≤ 5) (hws : Small 400 ws) (hw1 : k = 1 → Small 1 ws) (hv : v.natAbs ≤ 1000)
    (H1 : w.heap[P1]? = some (.cells #[.slice wA np wc] 33 (0, 0))) (H2 : w.heap[P2]? = some (.cells #[.int .i64 k, .int .i64 ag] 27 (0, 0))) (H3 : w.heap[P3]? = some (.cells #[.int .i64 v] 3 (0, 0))) :
    Calls Tryz.prog 56 #[.agg #[.slice pA np pc, .slice eA en ec], .pointer (some ⟨P1, 0, none⟩), .pointer (some ⟨P2, 0, none⟩), .pointer (some ⟨P3, 0, none⟩)] w fun e w' => e = .returned (.bool (standsB np (exs es) ws k v)) ∧ Below w.heap.size w w' := by
  have hSv := Lib.hid fun x (hb : Below w.heap.size w x) => solved_any pA eA wA np pc en ec wc es ws x hR (hE.below hb) hen (hW.below hb) hwn h1 h5 hws
  have hE1 := bk1 H1
  have hE2 := bk2 H2
  have hE3 := bk1 H3
  have hq1 : P1 < w.heap.size := bk_size H1
  have hq2 : P2 < w.heap.size := bk_size H2
  have hq3 : P3 < w.heap.size := bk_size H3
  unfold standsB
  have hof := Lib.hid fun m d p (h : solvedL np (exs es) ws = some (m, d, p)) => svOfE hR h1 h5 h
  obtain ⟨sv, esv⟩ : ∃ s, solvedL np (exs es) ws = s := ⟨_, rfl⟩
  rw [esv] at hSv hof ⊢
  rcases sv with _ | ⟨m, d, p⟩
  · clear hR hE hen hW hwn h1 h5 hws hw1 hv esv hof
    go_enter Tryz.func56, Tryz.ntmps56
    go_wp2_with (go_at_call 57; refine (hSv.out _ (new_below _ _)).mono ?_; rintro e w2 ⟨hg, hb2⟩; unfold SvGot at hg; subst hg; ((have Q1 := bk_keep hb2 (bk_alloc H1 (.cells #[.slice pA np pc, .slice eA en ec] 25 (0, 0)))); (have Q2 := bk_keep hb2 (bk_alloc H2 (.cells #[.slice pA np pc, .slice eA en ec] 25 (0, 0)))); (have Q3 := bk_keep hb2 (bk_alloc H3 (.cells #[.slice pA np pc, .slice eA en ec] 25 (0, 0)))); (have F1 := bk1 Q1); (have F2 := bk2 Q2); (have F3 := bk1 Q3); (have hbw : Below w.heap.size w w2 := via (new_below _ _) hb2)); clear hb2)
    refine wp_world ?_
    intro w3 hw3
    have hb23 : Below w2.heap.size w2 w3 := by rw [hw3]; go_grown
    have RM : w3.heap[w2.heap.size]? = some (.cells #[.int .i64 0, .slice none 0 0] 62 (0, 0)) := by rw [hw3]; (repeat (first | assumption | (refine bk_new _ _ ?_; (simp; done)) | refine bk_drew ?_ | refine bk_alloc ?_ _ | refine bk_set ?_ (by simp <;> omega) _))
    have C2 := bk2 (bk_keep hb23 Q2)
    have C3 := bk1 (bk_keep hb23 Q3)
    have C1 := bk1 (bk_keep hb23 Q1)
    have CM := bk2 RM
    have hbw3 : Below w.heap.size w w3 := via hbw hb23
    clear hw3 RM F1 F2 F3 hE1 hE2 hE3 Q1 Q2 Q3
    refine region_all w2 (by kernel_rfl) (by kernel_rfl) hb23 ?_
    intro hgc hbx
    repeat (go_big_quiet_step (fail))
    refine wpQuiet_nil ?_
    intro wb hb_wb hw_wb hs_wb
    clear hgc hbx
    go_wp2
    go_ret
    exact ⟨rfl, via hbw3 hb_wb⟩
  · obtain ⟨g1, g2, g3, g4, g5⟩ := hof.out m d p rfl
    have hdl := dot_le ws m 400 hws g4
    rw [g5] at hdl
    have hdl1 : k = 1 → (dotL ws m).natAbs ≤ 9000000000000000 := fun h => by
      have := dot_le ws m 1 (hw1 h) g4
      rw [g5] at this
      omega
    have hLs := Lib.hid fun x => isLess_any2 k ag (dotL ws m) d v x hdl1 (by omega) hv
    have hsm : Small 1228800000000000 m := fun x hx => by
      have := sum_le m g4 x hx
      rw [g5] at this
      have := g4 x hx
      omega
    have hdo := Lib.hid (show ∀ W A c, At 1 Zc W A m → Below w.heap.size w W → Calls Tryz.prog 58 #[.slice wA np wc, .slice A np c] W fun e w' => e = .returned (.int .i64 (dotL ws m)) ∧ W = w' from fun W A c hA hb => by
      have h := dot_any wA A ws m wc c W (hW.below hb) hA (by rw [hwn, g1]) (by rw [hwn]; omega) 400 1228800000000000 (by decide) hws hsm
      rwa [hwn, g1] at h)
    obtain ⟨S, eS⟩ : ∃ s, dotL ws m = s := ⟨_, rfl⟩
    obtain ⟨B, eB⟩ : ∃ b, lessB k (dotL ws m) d v = b := ⟨_, rfl⟩
    simp only [eB]
    rw [eB] at hLs
    rw [eS] at hLs hdo
    clear hR hE hen hW hwn h1 h5 hws hw1 hv esv hof g1 g2 g3 g4 g5 hdl hdl1 hsm eS eB
    go_enter Tryz.func56, Tryz.ntmps56
    go_wp2_with (go_at_call 57; refine (hSv.out _ (new_below _ _)).mono ?_; rintro e w2 ⟨hg, hb2⟩; unfold SvGot at hg; obtain ⟨A, c, A2, c2, rfl, hO, -⟩ := hg; ((have Q1 := bk_keep hb2 (bk_alloc H1 (.cells #[.slice pA np pc, .slice eA en ec] 25 (0, 0)))); (have Q2 := bk_keep hb2 (bk_alloc H2 (.cells #[.slice pA np pc, .slice eA en ec] 25 (0, 0)))); (have Q3 := bk_keep hb2 (bk_alloc H3 (.cells #[.slice pA np pc, .slice eA en ec] 25 (0, 0)))); (have F1 := bk1 Q1); (have F2 := bk2 Q2); (have F3 := bk1 Q3); (have hbw : Below w.heap.size w w2 := via (new_below _ _) hb2)); (have hA := Lib.hid (own_ints hO)); clear hb2 hO)
    refine wp_world ?_
    intro w3 hw3
    have hb23 : Below w2.heap.size w2 w3 := by rw [hw3]; go_grown
    have RM : w3.heap[w2.heap.size]? = some (.cells #[.int .i64 d, .slice A np c] 62 (0, 0)) := by rw [hw3]; (repeat (first | assumption | (refine bk_new _ _ ?_; (simp; done)) | refine bk_drew ?_ | refine bk_alloc ?_ _ | refine bk_set ?_ (by simp <;> omega) _))
    have C2 := bk2 (bk_keep hb23 Q2)
    have C3 := bk1 (bk_keep hb23 Q3)
    have C1 := bk1 (bk_keep hb23 Q1)
    have CM := bk2 RM
    have hbw3 : Below w.heap.size w w3 := via hbw hb23
    clear hw3 RM F1 F2 F3 hE1 hE2 hE3 Q1 Q2 Q3
    refine region_all w2 (by kernel_rfl) (by kernel_rfl) hb23 ?_
    intro hgc hbx
    repeat (go_big_quiet_step (first
      | (go_at_call 58; with_reducible exact Grew.call_same (hdo.out _ _ _ (hA.out.below (hbx.out _)) (via hbw (hbx.out _))))
      | (go_at_call 53; with_reducible exact Grew.call (hLs.out _))))
    refine wpQuiet_nil ?_
    intro wb hb_wb hw_wb hs_wb
    clear hgc hbx
    go_wp2
    go_ret
    exact ⟨rfl, via hbw3 hb_wb⟩
end Go.Proofs

set_option linter.unusedSimpArgs false
set_option linter.unusedVariables false
namespace Go.Proofs
open Go.RowKit
set_option linter.unusedVariables false
/-! hangs, HangsOn: what a certificate hangs on. -/
def hangsK (W : List Int) (k : Nat) : List Nat := (List.range k).filter fun i => decide (0 < W.getD i 0)
theorem hangsK_succ (W : List Int) (k : Nat) : hangsK W (k + 1) = hangsK W k ++ if 0 < W.getD k 0 then [k] else [] := by
  unfold hangsK
  rw [List.range_succ, List.filter_append]
  congr 1
  rw [List.filter_cons, List.filter_nil]
  by_cases h : 0 < W.getD k 0
  · rw [if_pos (by simpa using h), if_pos h]
  · rw [if_neg (by simpa using h), if_neg h]
theorem hangsK_len (W : List Int) (k : Nat) : (hangsK W k).length ≤ k := by
  unfold hangsK
  exact Nat.le_trans (List.length_filter_le _ _) (by simp)
def hangsV (W : List Int) (k : Nat) : List Value := (hangsK W k).map fun i : Nat => Value.int .i64 (i : Int)
set_option maxRecDepth 100000 in
set_option maxHeartbeats 2000000 in
theorem hangs_any (A : Option Addr) (c wn : Nat) (den lev : Int) (W : List Int) (w : World) (hW : At 1 Zc w A W) (hwn : W.length = wn) (hl : wn ≤ 1000000) :
    Calls Tryz.prog 48 #[.agg #[.int .i64 den, .int .i64 lev, .slice A wn c]] w fun e w' => (∃ A2 c2, e = .returned (.slice A2 (hangsK W wn).length c2) ∧ w'.ownsRow w.heap.size 3 1 (.slice A2 (hangsK W wn).length c2) (hangsK W wn).length (hangsV W wn)) ∧ Below w.heap.size w w' := by
  have hW' := Lib.hid hW
  have hwn' := Lib.hid hwn
  obtain ⟨i0, hi, hz0, hz1, hz2⟩ := info_parts Tryz.info3
  clear hW hwn
  go_enter Tryz.func48, Tryz.ntmps48
  go_wp2
  go_loopw [3, 9] (fun v i wr => ∃ j n : Nat, j ≤ wn ∧ n ≤ j ∧ i = .int .i64 j ∧ Hid (n = (hangsK W j).length) ∧ Hid (wr.ownsRow (w.heap.size + 1) 3 1 v n (hangsV W j)) ∧ Below w.heap.size w wr) (fun _ i _ => wn - (intOf i).toNat)
  case atStart => exact ⟨0, 0, Nat.zero_le _, Nat.le_refl _, rfl, Lib.hid rfl, Lib.hid (World.ownsRow_nil _ _ _ _), by go_grown⟩
  case round =>
    obtain ⟨j, n, hj, hnj, rfl, hn, hown, hbw⟩ := hrel
    obtain ⟨A5, c5, rfl⟩ := own_slice hown.out
    by_cases hlt : j < wn
    · have hjI : (j : Int) < (wn : Int) := by omega
      obtain ⟨b3, o3, rfl, hs3, c4⟩ := zc_cell (hW'.out.below hbw) (k := j) (by rw [hwn'.out]; exact hlt)
      have hsu := Lib.hid (hangsK_succ W j)
      obtain ⟨x, hx⟩ : ∃ x, W.getD j 0 = x := ⟨_, rfl⟩
      rw [hx] at c4 hsu
      clear hx
      by_cases h0 : 0 < x
      · have hst := Lib.hid (show hangsK W (j + 1) = hangsK W j ++ [j] by rw [hsu.out, if_pos h0])
        have hstV := Lib.hid (show hangsV W (j + 1) = hangsV W j ++ [.int .i64 (j : Int)] by unfold hangsV; rw [hst.out]; simp)
        clear hsu
        go_wp2_with (at_builtin; refine wpList_append_own _ rfl _ _ 33 rfl (w.heap.size + 1) 3 i0 (.int .i64 0) 1 8 Tryz.underlying33 hi hz0 hz1 hz2 rfl (by decide) _ _ _ rfl (hown.out.alloc _) ⟨wr.heap.size, 0, none⟩ 1 1 [.int .i64 (j : Int)] rfl rfl ?c1 ?c2 ?c3 ?c4 ?c5 ?_)
        try (case c1 => exact cells_new' _ [.int .i64 (j : Int)] _ (by simp))
        case c2 => first | rfl | (intro u hu; simp at hu; subst hu; rfl)
        case c3 => first | omega | (unfold maxLen; omega)
        case c4 => omega
        case c5 => have := hbw.size; first | omega | (simp; omega)
        intro v' w3 hown3 hg3 _
        have hown4 := Lib.hid (show w3.ownsRow (w.heap.size + 1) 3 1 v' (n + 1) (hangsV W (j + 1)) from by rw [hstV.out]; exact hown3)
        have hn4 := Lib.hid (show n + 1 = (hangsK W (j + 1)).length by rw [hst.out, List.length_append, ← hn.out]; rfl)
        have hbw3 : Below w.heap.size w w3 := grown_below (via hbw (new_below _ _)) hg3 fun b e => by have := (hown.out.lt b e).1; omega
        clear hown3 hg3 hst hstV
        go_wp2
        go_roundw
        case rel => exact ⟨j + 1, n + 1, by omega, by omega, by go_num, hn4, hown4, hbw3⟩
        case measure => first | (simp [intOf]; done) | (simp [intOf]; omega)
      · have hst := Lib.hid (show hangsK W (j + 1) = hangsK W j by rw [hsu.out, if_neg h0, List.append_nil])
        have hn4 := Lib.hid (show n = (hangsK W (j + 1)).length by rw [hst.out]; exact hn.out)
        have hown4 := Lib.hid (show wr.ownsRow (w.heap.size + 1) 3 1 (.slice A5 n c5) n (hangsV W (j + 1)) by unfold hangsV; rw [hst.out]; exact hown.out)
        clear hsu hst
        go_wp2
        go_roundw
        case rel => exact ⟨j + 1, n, by omega, by omega, by go_num, hn4, hown4, hbw⟩
        case measure => first | (simp [intOf]; done) | (simp [intOf]; omega)
    · obtain rfl : wn = j := by omega
      go_wp2
      go_ret
      refine ⟨⟨A5, c5, ?_, ?_⟩, hbw⟩
      · rw [← hn.out]; rfl
      · rw [← hn.out]; exact owns_base hown.out (Nat.le_add_right _ 1)
def HangsGot (ps : List Pa) (es : List En) (s : ByteArray) (k ag v den lev : Int) (W : List Int) (n0 : Nat) (e : Ending) (w' : World) : Prop :=
  if checkE ps es s k ag v den lev W ≠ 0 then e = .returned (.tuple #[.slice none 0 0, .int .i64 (checkE ps es s k ag v den lev W)])
  else ∃ A2 c2, e = .returned (.tuple #[.slice A2 (hangsK W W.length).length c2, .int .i64 0]) ∧ w'.ownsRow n0 3 1 (.slice A2 (hangsK W W.length).length c2) (hangsK W W.length).length (hangsV W W.length)
set_option maxRecDepth 100000 in
set_option maxHeartbeats 4000000 in
theorem hangsOn_any (pA eA A : Option Addr) (pc ec pn en c wn : Nat) (ps : List Pa) (es : List En) (s : ByteArray) (k ag v den lev : Int) (W : List Int) (w : World) (hB : BookAt w pA pc ps eA ec es) (hF : FewB ps es) (hpn : ps.length = pn) (hen : es.length = en)
    (hs : s.size ≤ 1000000) (hW : At 1 Zc w A W) (hwn : W.length = wn) (hl : wn ≤ 1000000) :
    Calls Tryz.prog 17 #[.agg #[.slice pA pn pc, .slice eA en ec], .agg #[.string s, .int .i64 k, .int .i64 ag, .int .i64 v, .int .i64 den, .int .i64 lev, .slice A wn c]] w fun e w' => HangsGot ps es s k ag v den lev W w.heap.size e w' ∧ Below w.heap.size w w' := by
  have hCh := Lib.hid fun x (hb : Below w.heap.size w x) => checkCert_any pA eA A pc ec pn en c wn ps es s k ag v den lev W x (hB.below hb) hF hpn hen hs (hW.below hb) hwn hl
  have hHa := Lib.hid fun x (hb : Below w.heap.size w x) => hangs_any A c wn den lev W x (hW.below hb) hwn hl
  obtain ⟨E, eE⟩ : ∃ E, checkE ps es s k ag v den lev W = E := ⟨_, rfl⟩
  rw [eE] at hCh
  have hgot := Lib.hid (show ∀ n0 e w', HangsGot ps es s k ag v den lev W n0 e w' = if E ≠ 0 then e = .returned (.tuple #[.slice none 0 0, .int .i64 E])
  else ∃ A2 c2, e = .returned (.tuple #[.slice A2 (hangsK W wn).length c2, .int .i64 0]) ∧ w'.ownsRow n0 3 1 (.slice A2 (hangsK W wn).length c2) (hangsK W wn).length (hangsV W wn) from fun n0 e w' => by
    unfold HangsGot
    rw [eE, hwn])
  clear eE hB hF hpn hen hW hwn
  by_cases hE : E = 0
  · subst hE
    have hfin := Lib.hid (show ∀ n0 e w', (∃ A2 c2, e = .returned (.tuple #[.slice A2 (hangsK W wn).length c2, .int .i64 0]) ∧ w'.ownsRow n0 3 1 (.slice A2 (hangsK W wn).length c2) (hangsK W wn).length (hangsV W wn)) → HangsGot ps es s k ag v den lev W n0 e w' from fun n0 e w' h => by
      rw [hgot.out, if_neg (by simp)]
      exact h)
    clear hgot
    go_enter Tryz.func17, Tryz.ntmps17
    go_wp2_with (first
      | (go_at_call 21; refine (hCh.out _ (by go_grown)).mono ?_; rintro e w2 ⟨rfl, hb2⟩; (have M1 := bk_keep hb2 (by (repeat (first | assumption | (refine bk_new _ _ ?_; (simp; done)) | refine bk_drew ?_ | refine bk_alloc ?_ _ | refine bk_set ?_ (by simp <;> omega) _)) : ((w.alloc (.cells #[.slice pA pn pc, .slice eA en ec] 25 (0, 0))).alloc (.cells #[.string s, .int .i64 k, .int .i64 ag, .int .i64 v, .int .i64 den, .int .i64 lev, .slice A wn c] 37 (0, 0))).heap[w.heap.size + 1]? = some (.cells #[.string s, .int .i64 k, .int .i64 ag, .int .i64 v, .int .i64 den, .int .i64 lev, .slice A wn c] 37 (0, 0)))); (have D1 := bk7 M1); (have hbw : Below w.heap.size w w2 := via (by go_grown) hb2); clear hb2)
      | (go_at_call 48; refine (hHa.out _ hbw).mono ?_; rintro e w3 ⟨⟨A2, c2, rfl, hO⟩, hb3⟩; (have hO := Lib.hid (owns_base hO hbw.size))))
    go_ret2
    exact ⟨hfin.out _ _ _ ⟨A2, c2, rfl, hO.out⟩, via hbw hb3⟩
  · have hEb : (E != 0) = true := by simpa using hE
    have hfin := Lib.hid (show ∀ n0 e w', e = .returned (.tuple #[.slice none 0 0, .int .i64 E]) → HangsGot ps es s k ag v den lev W n0 e w' from fun n0 e w' h => by
      rw [hgot.out, if_pos hE]
      exact h)
    clear hgot hE
    go_enter Tryz.func17, Tryz.ntmps17
    go_wp2_with ((go_at_call 21; refine (hCh.out _ (by go_grown)).mono ?_; rintro e w2 ⟨rfl, hb2⟩; (have M1 := bk_keep hb2 (by (repeat (first | assumption | (refine bk_new _ _ ?_; (simp; done)) | refine bk_drew ?_ | refine bk_alloc ?_ _ | refine bk_set ?_ (by simp <;> omega) _)) : ((w.alloc (.cells #[.slice pA pn pc, .slice eA en ec] 25 (0, 0))).alloc (.cells #[.string s, .int .i64 k, .int .i64 ag, .int .i64 v, .int .i64 den, .int .i64 lev, .slice A wn c] 37 (0, 0))).heap[w.heap.size + 1]? = some (.cells #[.string s, .int .i64 k, .int .i64 ag, .int .i64 v, .int .i64 den, .int .i64 lev, .slice A wn c] 37 (0, 0)))); (have D1 := bk7 M1); (have hbw : Below w.heap.size w w2 := via (by go_grown) hb2); clear hb2))
    go_ret2
    exact ⟨hfin.out _ _ _ rfl, hbw⟩
end Go.Proofs

set_option linter.unusedSimpArgs false
set_option linter.unusedVariables false
namespace Go.Proofs
open Go.RowKit
set_option linter.unusedVariables false
/-! slices.Clone. -/
theorem flatB_inv {α β : Type} (cs : α → List β) (sz : Nat) (hsz : ∀ x, (cs x).length = sz) : ∀ (l : List α) (j : Nat) (v : β), (l.flatMap cs)[j]? = some v → ∃ k r x, l[k]? = some x ∧ (cs x)[r]? = some v ∧ j = k * sz + r
  | [], j, v, h => by simp at h
  | a :: l, j, v, h => by
    rw [List.flatMap_cons] at h
    by_cases hj : j < sz
    · rw [List.getElem?_append_left (by rw [hsz]; exact hj)] at h
      exact ⟨0, j, a, rfl, h, by omega⟩
    · rw [List.getElem?_append_right (by rw [hsz]; omega), hsz] at h
      obtain ⟨k, r, x, h1, h2, h3⟩ := flatB_inv cs sz hsz l _ v h
      exact ⟨k + 1, r, x, h1, h2, by rw [Nat.add_mul]; omega⟩
theorem flatB_len {α β : Type} (cs : α → List β) (sz : Nat) (hsz : ∀ x, (cs x).length = sz) : ∀ (l : List α), (l.flatMap cs).length = l.length * sz
  | [] => by simp
  | a :: l => by rw [List.flatMap_cons, List.length_append, hsz, flatB_len cs sz hsz l, List.length_cons, Nat.add_mul]; omega
theorem own_empty (w : World) {e : TypeId} {sz : Nat} : (w.alloc (.cells #[] e (0, 0))).ownsRow w.heap.size e sz (.slice (some ⟨w.heap.size, 0, none⟩) 0 0) 0 [] :=
  ⟨by simp, .inr ⟨w.heap.size, 0, #[], rfl, Nat.le_refl _, World.alloc_heap_new _ _, Nat.le_refl _, Nat.zero_le _, by simp, by simp⟩⟩
theorem addr_add' {b o : Nat} (n : Nat) : (⟨b, o, none⟩ : Addr).add n = ⟨b, o + n, none⟩ := by
  unfold Addr.add
  split
  · subst_vars; rfl
  · rfl
theorem at_news {α : Type} {cs : α → List Value} {sz : Nat} (hsz : ∀ x, (cs x).length = sz) {w : World} {a : Addr} {l : List α} (h : At sz cs w (some a) l) : ∀ j u, (l.flatMap cs)[j]? = some u → w.cell? (a.add j) = some u := by
  intro j u hu
  obtain ⟨k, r, x, h1, h2, rfl⟩ := flatB_inv cs sz hsz l j u hu
  obtain ⟨b, o, hA, -, hc⟩ := h k x h1
  cases hA
  have := hc r u h2
  rw [Nat.add_assoc] at this
  rw [addr_add']
  exact this
set_option maxRecDepth 100000 in
set_option maxHeartbeats 2000000 in
theorem clone_ints (A : Option Addr) (l : List Int) (c n : Nat) (w : World) (hat : At 1 Zc w A l) (hn : l.length = n) (hl : n ≤ 1000) (hnil : A = none → c = 0) :
    Calls Tryz.prog 76 #[.slice A n c] w fun e w' => (∃ A2 c2, e = .returned (.slice A2 n c2) ∧ w'.ownsRow w.heap.size 3 1 (.slice A2 n c2) n (l.flatMap Zc)) ∧ Below w.heap.size w w' := by
  obtain ⟨i0, hi, hz0, hz1, hz2⟩ := info_parts Tryz.info3
  cases A with
  | none =>
    have hl0 : l = [] := by
      cases l with
      | nil => rfl
      | cons x l => obtain ⟨b, o, h, -⟩ := hat 0 x rfl; cases h
    subst hl0
    subst hn
    obtain rfl := hnil rfl
    clear hat hnil
    have hcmp : ∀ W, (binOp .eql 33 (.slice none 0 0) (.slice none 0 0)).run Tryz.prog W = .ok (.bool true) W := fun _ => by kernel_rfl
    simp only [List.length_nil]
    go_enter Tryz.func76, Tryz.ntmps76
    go_wp2
    go_ret
    exact ⟨⟨none, 0, rfl, World.ownsRow_nil _ _ _ _⟩, Below.refl _ _⟩
  | some a =>
    clear hnil
    have hcmp : ∀ W, (binOp .eql 33 (.slice (some a) n c) (.slice none 0 0)).run Tryz.prog W = .ok (.bool false) W := fun _ => by kernel_rfl
    go_enter Tryz.func76, Tryz.ntmps76
    go_wp2_with (at_builtin; refine wpList_append_own _ rfl _ _ 33 rfl w.heap.size 3 i0 (.int .i64 0) 1 8 (by first | exact Tryz.underlying33 | kernel_rfl) hi hz0 hz1 hz2 rfl (by decide) _ _ _ rfl (own_empty w) a n c (l.flatMap Zc) rfl ?c1 ?c2 ?c3 ?c4 ?c5 ?c6 ?_)
    case c1 => rw [flatB_len Zc 1 (fun _ => rfl), hn]
    case c2 => exact at_news (sz := 1) (cs := Zc) (fun _ => rfl) (hat.below (new_below _ _))
    case c3 =>
      intro u hu
      obtain ⟨x, -, hx⟩ := List.mem_flatMap.1 hu
      (simp [Zc] at hx; subst hx; rfl)
    case c4 => unfold maxLen; omega
    case c5 => omega
    case c6 => simp
    intro v' w3 hown3 hg3 _
    obtain ⟨A5, c5, rfl⟩ := own_slice hown3
    have hown4 := Lib.hid hown3
    have hb3 : Below w.heap.size w w3 := grown_below (new_below _ _) hg3 fun b e => by simp [Value.ownBlock] at e; omega
    clear hown3 hg3 hat
    go_wp2
    go_ret
    exact ⟨⟨A5, c5, rfl, hown4.out⟩, hb3⟩
theorem infoPa : (Tryz.prog.info? 71).map (fun i => (i.zero, i.size, i.bytes)) = some (some (.agg #[.string (ByteArray.mk #[]), .int .i64 0, .int .i64 0, .int .i64 0, .int .i64 0]), 5, 48) := by kernel_rfl
theorem infoEn : (Tryz.prog.info? 73).map (fun i => (i.zero, i.size, i.bytes)) = some (some (.agg #[.string (ByteArray.mk #[]), .slice none 0 0, .int .i64 0]), 3, 48) := by kernel_rfl
set_option maxRecDepth 100000 in
set_option maxHeartbeats 2000000 in
theorem clone_parts (A : Option Addr) (l : List Pa) (c n : Nat) (w : World) (hat : At 5 Pa.cs w A l) (hn : l.length = n) (hl : n ≤ 1000) (hnil : A = none → c = 0) :
    Calls Tryz.prog 75 #[.slice A n c] w fun e w' => (∃ A2 c2, e = .returned (.slice A2 n c2) ∧ w'.ownsRow w.heap.size 71 5 (.slice A2 n c2) n (l.flatMap Pa.cs)) ∧ Below w.heap.size w w' := by
  obtain ⟨i0, hi, hz0, hz1, hz2⟩ := info_parts infoPa
  cases A with
  | none =>
    have hl0 : l = [] := by
      cases l with
      | nil => rfl
      | cons x l => obtain ⟨b, o, h, -⟩ := hat 0 x rfl; cases h
    subst hl0
    subst hn
    obtain rfl := hnil rfl
    clear hat hnil
    have hcmp : ∀ W, (binOp .eql 22 (.slice none 0 0) (.slice none 0 0)).run Tryz.prog W = .ok (.bool true) W := fun _ => by kernel_rfl
    simp only [List.length_nil]
    go_enter Tryz.func75, Tryz.ntmps75
    go_wp2
    go_ret
    exact ⟨⟨none, 0, rfl, World.ownsRow_nil _ _ _ _⟩, Below.refl _ _⟩
  | some a =>
    clear hnil
    have hcmp : ∀ W, (binOp .eql 22 (.slice (some a) n c) (.slice none 0 0)).run Tryz.prog W = .ok (.bool false) W := fun _ => by kernel_rfl
    go_enter Tryz.func75, Tryz.ntmps75
    go_wp2_with (at_builtin; refine wpList_append_own _ rfl _ _ 22 rfl w.heap.size 71 i0 (.agg #[.string (ByteArray.mk #[]), .int .i64 0, .int .i64 0, .int .i64 0, .int .i64 0]) 5 48 (by first | exact Tryz.underlying33 | kernel_rfl) hi hz0 hz1 hz2 rfl (by decide) _ _ _ rfl (own_empty w) a n c (l.flatMap Pa.cs) rfl ?c1 ?c2 ?c3 ?c4 ?c5 ?c6 ?_)
    case c1 => rw [flatB_len Pa.cs 5 (fun _ => rfl), hn]
    case c2 => exact at_news (sz := 5) (cs := Pa.cs) (fun _ => rfl) (hat.below (new_below _ _))
    case c3 =>
      intro u hu
      obtain ⟨x, -, hx⟩ := List.mem_flatMap.1 hu
      (simp [Pa.cs] at hx; rcases hx with rfl | rfl | rfl | rfl | rfl <;> rfl)
    case c4 => unfold maxLen; omega
    case c5 => omega
    case c6 => simp
    intro v' w3 hown3 hg3 _
    obtain ⟨A5, c5, rfl⟩ := own_slice hown3
    have hown4 := Lib.hid hown3
    have hb3 : Below w.heap.size w w3 := grown_below (new_below _ _) hg3 fun b e => by simp [Value.ownBlock] at e; omega
    clear hown3 hg3 hat
    go_wp2
    go_ret
    exact ⟨⟨A5, c5, rfl, hown4.out⟩, hb3⟩
end Go.Proofs
