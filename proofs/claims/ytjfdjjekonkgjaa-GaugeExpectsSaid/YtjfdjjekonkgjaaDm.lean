import Derived.Test.YtjfdjjekonkgjaaRb2
import Derived.Test.YtjfdjjekonkgjaaZf
import Derived.Test.YtjfdjjekonkgjaaQ
import Derived.Test.YtjfdjjekonkgjaaR
import Derived.Test.YtjfdjjekonkgjaaDd
import Derived.ChangeKeysEq
import Derived.Laws.StructEq
import Derived.Test.YtjfdjjekonkgjaaMx
import Derived.Test.YtjfdjjekonkgjaaCg
set_option linter.unusedSimpArgs false
set_option linter.unusedVariables false
namespace Go.Proofs
open Go.RowKit

theorem refTold_any (a b : Int) (w : World) (h1 : -1000000000000000000 ≤ a) (h2 : a ≤ 1000000000000000000) (h3 : -1000000000000000000 ≤ b) (h4 : b ≤ 1000000000000000000) :
    Calls Try.prog 111 #[.agg #[.int .i64 a, .int .i64 b]] w fun e w' => e = .returned (.agg #[.int .i64 (a / 1000), .int .i64 (-(-b / 1000))]) ∧ Below w.heap.size w w' := by
  have hF := Lib.hid fun W => refFloor_any a 1000 W h1 h2 (by omega)
  have hC := Lib.hid fun W => refCeil_any b 1000 W h3 h4 (by omega)
  go_enter Try.func111, Try.ntmps111
  go_wp2_with fail
  refine region_in w 7 (by kernel_rfl) (by kernel_rfl) (by go_grown) ?_
  intro hgc hbx
  simp only [List.take_succ_cons, List.take_zero, List.drop_succ_cons, List.drop_zero]
  repeat (go_big_quiet_step (first
    | (go_at_call 75; exact Grew.call_same (hF.out _))
    | (go_at_call 76; exact Grew.call_same (hC.out _))))
  refine wpQuiet_nil ?_
  intro w1 hb1 hw1 hs1
  clear hgc hbx
  have B2 : w1.heap[w.heap.size + 1]? = some (.cells #[.int .i64 0, .int .i64 0] 24 (0, 0)) := bk_keep hb1 (by (repeat (first | assumption | (refine bk_new _ _ ?_; (simp; done)) | refine bk_drew ?_ | refine bk_alloc ?_ _ | refine bk_set ?_ (by simp <;> omega) _)))
  have C2 := bk2 B2
  go_wp2
  refine bodyPost_ret (v := .agg #[.int .i64 (a / 1000), .int .i64 (-(-b / 1000))]) ?_ rfl ⟨rfl, ?_⟩
  · simp [results, Try.results111, go_sem, C2]
  · go_grown
end Go.Proofs

namespace Go.Proofs
open Go.RowKit

set_option maxRecDepth 100000 in
set_option maxHeartbeats 2000000 in
theorem refContradict_any (l0 l1 : Int) (A A2 : Option Addr) (rs : List Rd) (ms : List Mv) (c c2 : Nat) (i j : Nat) (x y : Rd) (w : World) (hok : Right l0 l1 rs ms)
    (hx : rs[i]? = some x) (hy : rs[j]? = some y) (hat : At 4 Rd.cs w A rs) (hat2 : At 4 Mv.cs w A2 ms) :
    Calls Try.prog 53 #[.agg #[.int .i64 l0, .int .i64 l1, .slice A rs.length c, .slice A2 ms.length c2], .int .i64 i, .int .i64 j] w fun e w' =>
      e = .returned (.bool (contra l0 l1 ms x y)) ∧ Below w.heap.size w w' := by
  have hxr := hok.rd x (List.mem_of_getElem? hx)
  have hyr := hok.rd y (List.mem_of_getElem? hy)
  obtain ⟨b, o, rfl, hb, hcx, hcy⟩ := hat.two hx hy
  have hil : i < rs.length := (List.getElem?_eq_some_iff.1 hx).1
  have hjl : j < rs.length := (List.getElem?_eq_some_iff.1 hy).1
  have hrn := hok.rn
  have hA := fun W hW => refAllowed_any l0 l1 (.slice (some ⟨b, o, none⟩) rs.length c) A2 ms c2 x y.d W hok.mn hok.mv (At.below hat2 hW) hok.l0.1 hok.l0.2 hok.l1.1 hok.l1.2 hyr.1 hyr.2.1 ⟨hxr.1, hxr.2.1⟩ ⟨hxr.2.2.1, hxr.2.2.2.1⟩ ⟨hxr.2.2.2.2.1, hxr.2.2.2.2.2⟩
  unfold contra eqS
  generalize allowsLo l0 l1 ms x y.d = a1 at *
  generalize allowsHi l0 l1 ms x y.d = a2 at *
  obtain ⟨xc, xd, xlo, xhi⟩ := x
  obtain ⟨yc, yd, ylo, yhi⟩ := y
  have x0 := hcx 0 _ rfl
  have x1 := hcx 1 _ rfl
  have x2 := hcx 2 _ rfl
  have x3 := hcx 3 _ rfl
  have y0 := hcy 0 _ rfl
  have y1 := hcy 1 _ rfl
  have y2 := hcy 2 _ rfl
  have y3 := hcy 3 _ rfl
  dsimp only at x0 x1 x2 x3 y0 y1 y2 y3 hA hxr hyr
  simp only [Nat.add_zero] at x0 y0
  generalize rs.length = n at *
  obtain ⟨g1, g2, g3, g4, g5, g6⟩ := hyr
  have hA' := Lib.hid hA
  clear hA hcx hcy hx hy hat hat2 hok hxr
  obtain ⟨q, hq⟩ : ∃ q, (xc.toList == yc.toList) = q := ⟨_, rfl⟩
  rw [hq]
  go_enter Try.func53, Try.ntmps53
  go_wp2_with fail
  obtain ⟨W0, hW0⟩ : ∃ W0, w.alloc (.cells #[.int .i64 l0, .int .i64 l1, .slice (some ⟨b, o, none⟩) n c, .slice A2 ms.length c2] 49) = W0 := ⟨_, rfl⟩
  have k0 : W0.cell? ⟨w.heap.size, 2, none⟩ = some (.slice (some ⟨b, o, none⟩) n c) := by rw [← hW0]; simp
  have k1 : W0.cell? ⟨w.heap.size, 0, none⟩ = some (.int .i64 l0) := by rw [← hW0]; simp
  have k2 : W0.cell? ⟨w.heap.size, 1, none⟩ = some (.int .i64 l1) := by rw [← hW0]; simp
  have k3 : W0.cell? ⟨w.heap.size, 3, none⟩ = some (.slice A2 ms.length c2) := by rw [← hW0]; simp
  have hs0 : w.heap.size < W0.heap.size := by rw [← hW0]; simp
  have hbb : b < W0.heap.size := by omega
  have hw0 : Below w.heap.size w W0 := by rw [← hW0]; go_grown
  have z0 := (hw0.cell (p := ⟨b, o + i * 4, none⟩) hb).trans x0
  have z1 := (hw0.cell (p := ⟨b, o + i * 4 + 1, none⟩) hb).trans x1
  have z2 := (hw0.cell (p := ⟨b, o + i * 4 + 2, none⟩) hb).trans x2
  have z3 := (hw0.cell (p := ⟨b, o + i * 4 + 3, none⟩) hb).trans x3
  have u0 := (hw0.cell (p := ⟨b, o + j * 4, none⟩) hb).trans y0
  have u1 := (hw0.cell (p := ⟨b, o + j * 4 + 1, none⟩) hb).trans y1
  have u2 := (hw0.cell (p := ⟨b, o + j * 4 + 2, none⟩) hb).trans y2
  have u3 := (hw0.cell (p := ⟨b, o + j * 4 + 3, none⟩) hb).trans y3
  rw [hW0]
  clear x0 x1 x2 x3 y0 y1 y2 y3 hW0
  have hi3 : (i : Int) < (n : Int) := by omega
  have hj3 : (j : Int) < (n : Int) := by omega
  have h1 : w.heap.size < W0.heap.size + 1 := by omega
  have h2 : w.heap.size < W0.heap.size + 1 + 1 := by omega
  have hcase : q = false ∨ (q = true ∧ a2 < 1000 * ylo) ∨ (q = true ∧ 1000 * ylo ≤ a2 ∧ 1000 * yhi < a1) ∨ (q = true ∧ 1000 * ylo ≤ a2 ∧ a1 ≤ 1000 * yhi) := by
    cases q
    · exact .inl rfl
    · simp; omega
  go_region
  all_goals
    rcases hcase with rfl | ⟨rfl, hp⟩ | ⟨rfl, hp2, hp⟩ | ⟨rfl, hp2, hp⟩
    all_goals
      go_wp2_with (go_at_call 107; refine (hA'.out _ ?_).mono ?_; (· go_grown); rintro e w1 ⟨rfl, hb1⟩; have hcc := gcell hb1; have hff := gfrozen hb1; have hsz := hb1.size; simp only [World.size_alloc, World.size_drew] at hsz; have e0 : w.heap.size < w1.heap.size := (by omega); have e1 : W0.heap.size < w1.heap.size := (by omega); have e2 : W0.heap.size + 1 < w1.heap.size := (by omega); have hbw := via (by go_grown : Below w.heap.size w _) hb1)
      go_ret
      refine ⟨ret_bool ?_, by go_grown⟩
      first
        | rfl
        | (simp only [Bool.true_and, Bool.false_and, decide_eq_true hp, Bool.true_or, Bool.or_true]; done)
        | (rw [decide_eq_false (by omega : ¬ a2 < 1000 * ylo)]; simp; done)
        | (simp; omega)
end Go.Proofs

namespace Go.Proofs
open Go.RowKit

set_option maxRecDepth 100000 in
set_option maxHeartbeats 2000000 in
theorem refPairs_any (l0 l1 : Int) (A A2 : Option Addr) (rs : List Rd) (ms : List Mv) (c c2 : Nat) (w : World) (hok : Right l0 l1 rs ms) (hat : At 4 Rd.cs w A rs) (hat2 : At 4 Mv.cs w A2 ms) :
    Calls Try.prog 51 #[.agg #[.int .i64 l0, .int .i64 l1, .slice A rs.length c, .slice A2 ms.length c2]] w fun e w' =>
      (∃ A3 cap, e = .returned (.slice A3 (allPairs l0 l1 rs ms).length cap) ∧ At 2 Pc w' A3 (allPairs l0 l1 rs ms)) ∧ Below w.heap.size w w' := by
  have hC := fun i j x y W hx hy hW => refContradict_any l0 l1 A A2 rs ms c c2 i j x y W hok hx hy (At.below hat hW) (At.below hat2 hW)
  have hCC : ∀ i j x y, rs[i]? = some x → rs[j]? = some y → contra l0 l1 ms x y = contraAt l0 l1 rs ms i j := fun i j x y hx hy => by unfold contraAt; rw [hx, hy]
  have hrn := hok.rn
  unfold allPairs
  generalize contraAt l0 l1 rs ms = C at *
  have hC2 : ∀ i j W, i < rs.length → j < rs.length → Below w.heap.size w W → Calls Try.prog 53 #[.agg #[.int .i64 l0, .int .i64 l1, .slice A rs.length c, .slice A2 ms.length c2], .int .i64 i, .int .i64 j] W fun e w' =>
      e = .returned (.bool (C i j)) ∧ Below W.heap.size W w' := fun i j W hi hj hW => by
    have := hC i j _ _ W (List.getElem?_eq_getElem hi) (List.getElem?_eq_getElem hj) hW
    rwa [hCC i j _ _ (List.getElem?_eq_getElem hi) (List.getElem?_eq_getElem hj)] at this
  have hC' := Lib.hid hC2
  generalize rs.length = n at *
  generalize ms.length = m at *
  clear hC hCC hC2 hok hat hat2
  obtain ⟨i0, hi, hz0, hz1, hz2⟩ := info_parts info42
  go_enter Try.func51, Try.ntmps51
  go_wp2
  go_loopw [3, 4] (fun v i wr => ∃ k : Nat, k ≤ n ∧ i = .int .i64 k ∧ wr.ownsRow (w.heap.size + 1) 42 2 v (pout C n k).length ((pout C n k).flatMap Pc) ∧ Below (w.heap.size + 1) (w.alloc (.cells #[.int .i64 l0, .int .i64 l1, .slice A n c, .slice A2 m c2] 49)) wr) (fun _ i _ => n - (intOf i).toNat)
  case atStart => exact ⟨0, Nat.zero_le _, rfl, World.ownsRow_nil _ _ _ _, Below.refl _ _⟩
  case round =>
    obtain ⟨k, hk, rfl, hown, hb⟩ := hrel
    have hbw : Below w.heap.size w wr := (new_below _ _).trans (hb.mono (by omega))
    have hcc := fun o => hb.cell (p := ⟨w.heap.size, o, none⟩) (by simp)
    have hz0 : w.heap.size < wr.heap.size := by have := hb.size; simp at this; omega
    by_cases hlt : k < n
    · obtain ⟨wo, rfl⟩ : ∃ wo : World, wo = wr := ⟨_, rfl⟩
      have hol := pout_len C n k
      have hkn : n * k ≤ 40 * 40 := Nat.mul_le_mul hrn (by omega)
      have hbw' := hbw.size
      go_wp2
      go_loopw [3, 5] (fun v i wr => ∃ j : Nat, k + 1 ≤ j ∧ j ≤ n ∧ i = .int .i64 j ∧ wr.ownsRow (w.heap.size + 1) 42 2 v (pout C n k ++ pin C k j).length ((pout C n k ++ pin C k j).flatMap Pc) ∧ Below (w.heap.size + 1) (w.alloc (.cells #[.int .i64 l0, .int .i64 l1, .slice A n c, .slice A2 m c2] 49)) wr) (fun _ i _ => n - (intOf i).toNat)
      case atStart => exact ⟨k + 1, Nat.le_refl _, by omega, by go_num, by rw [pin_start, List.append_nil]; exact hown, hb⟩
      case round =>
        obtain ⟨j, hkj, hj, rfl, hown1, hb1⟩ := hrel
        clear hown hb hbw hbw' hcc hz0
        have hbw1 : Below w.heap.size w wr := (new_below _ _).trans (hb1.mono (by omega))
        have hbw' := hbw1.size
        have hb1s : w.heap.size + 1 ≤ wr.heap.size := by have := hb1.size; simpa using this
        have hcc := fun o => hb1.cell (p := ⟨w.heap.size, o, none⟩) (by simp)
        by_cases hjn : j < n
        · cases hcb : C k j
          · have hc1 := hC'.out k j wr hlt hjn hbw1
            rw [hcb] at hc1
            have hc1' := Lib.hid hc1
            have hcb' := Lib.hid hcb
            have hown' := Lib.hid hown1
            clear hc1 hcb hown1
            go_wp2_with (go_at_call 53; refine hc1'.out.mono ?_; rintro e w2 ⟨rfl, hb2⟩)
            go_roundw
            case rel => exact ⟨j + 1, by omega, by omega, by go_num, by rw [pin_no C k j hcb'.out]; exact owns_below hown'.out hb2, hb1.trans (hb2.mono hb1s)⟩
            case measure => simp [intOf]; omega
          · have hc1 := hC'.out k j wr hlt hjn hbw1
            rw [hcb] at hc1
            have hc1' := Lib.hid hc1
            have hcb' := Lib.hid hcb
            have hown' := Lib.hid hown1
            have hlen := @List.length_append _ (pout C n k) (pin C k j)
            have hpl := pin_len C k j
            clear hc1 hcb hown1
            go_wp2_with (first
              | (at_builtin; refine wpList_append_own _ rfl _ _ 69 rfl (w.heap.size + 1) 42 i0 (.agg #[.int .i64 0, .int .i64 0]) 2 16 Try.underlying69 hi hz0 hz1 hz2 rfl (by decide) _ _ _ rfl (hown2.out.alloc _) ⟨w2.heap.size, 0, none⟩ 1 1 [.int .i64 (k : Int), .int .i64 (j : Int)] rfl rfl ?c1 ?c2 ?c3 ?c4 ?c5 ?_)
              | (go_at_call 53; refine hc1'.out.mono ?_; rintro e w2 ⟨rfl, hb2⟩; have hown2 := Lib.hid (owns_below hown'.out hb2); have hs2 := hb2.size))
            case c1 => exact cell_two_new _ _ _ _
            case c2 => intro u hu; simp at hu; rcases hu with rfl | rfl <;> rfl
            case c3 => unfold maxLen; omega
            case c4 => omega
            case c5 => simp; omega
            intro v' w3 hown3 hg3 _
            have hlt3 := hown2.out.lt
            have hbel : Below (w.heap.size + 1) (w.alloc (.cells #[.int .i64 l0, .int .i64 l1, .slice A n c, .slice A2 m c2] 49)) w3 :=
              ((hb1.trans (hb2.mono hb1s)).alloc (by omega) _).grown hg3 (by simp; omega) (fun r e => (hlt3 r e).1)
            have hown4 : w3.ownsRow (w.heap.size + 1) 42 2 v' (pout C n k ++ pin C k (j + 1)).length ((pout C n k ++ pin C k (j + 1)).flatMap Pc) := by
              rw [pin_yes C k j (by omega) hcb'.out]
              simpa [List.flatMap_append, Pc, Nat.add_assoc] using hown3
            have hown5 := Lib.hid hown4
            clear hown3 hown4 hg3 hlt3
            go_wp2
            go_roundw
            case rel => exact ⟨j + 1, by omega, by omega, by go_num, hown5.out, hbel⟩
            case measure => simp [intOf]; omega
        · have hjj : j = n := by omega
          subst hjj
          have hown' := Lib.hid hown1
          clear hown1
          go_wp2
          go_roundw
          case rel => exact ⟨k + 1, by omega, by go_num, by rw [pout_succ]; exact hown'.out, hb1⟩
          case measure => simp [intOf]; omega
    · have hkk : k = n := by omega
      subst hkk
      obtain ⟨A3, cap, rfl, hat3⟩ := at_of_owns (cs := Pc) (sz := 2) (fun _ => rfl) hown
      have hat3' := Lib.hid hat3
      clear hat3 hown
      go_wp2
      go_ret
      exact ⟨⟨A3, cap, rfl, hat3'.out⟩, hbw⟩
end Go.Proofs

namespace Go.Proofs
open Go.RowKit

set_option maxRecDepth 100000 in
set_option maxHeartbeats 1000000 in
theorem refExpectedAt_any (l0 l1 : Int) (A A2 : Option Addr) (rs : List Rd) (ms : List Mv) (c c2 : Nat) (a : Nat) (day : Int) (x : Rd) (w : World) (hR : Right l0 l1 rs ms) (hx : rs[a]? = some x) (j1 : 0 ≤ day) (j2 : day ≤ 100000)
    (hat : At 4 Rd.cs w A rs) (hat2 : At 4 Mv.cs w A2 ms) :
    Calls Try.prog 57 #[.agg #[.int .i64 l0, .int .i64 l1, .slice A rs.length c, .slice A2 ms.length c2], .int .i64 (a : Int), .int .i64 day] w fun e w' =>
      e = .returned (.agg #[.int .i64 (rngV l0 l1 ms x day).1, .int .i64 (rngV l0 l1 ms x day).2]) ∧ Below w.heap.size w w' := by
  unfold rngV
  dsimp only
  have hbd := allows_bd l0 l1 rs ms x day hR (List.mem_of_getElem? hx) j1 j2
  have hxr := hR.rd x (List.mem_of_getElem? hx)
  have hA := Lib.hid fun sr c W (hW : Below w.heap.size w W) => refAllowed_any l0 l1 sr A2 ms c x day W hR.mn hR.mv (At.below hat2 hW) hR.l0.1 hR.l0.2 hR.l1.1 hR.l1.2 j1 j2 ⟨hxr.1, hxr.2.1⟩ ⟨hxr.2.2.1, hxr.2.2.2.1⟩ ⟨hxr.2.2.2.2.1, hxr.2.2.2.2.2⟩
  have hT := Lib.hid fun W => refTold_any (allowsLo l0 l1 ms x day) (allowsHi l0 l1 ms x day) W (by omega) (by omega) (by omega) (by omega)
  obtain ⟨bb, o, rfl, hxy'⟩ := hat.one' hx
  have hxy := Lib.hid hxy'
  have hil : (a : Int) < (rs.length : Int) := by have := (List.getElem?_eq_some_iff.1 hx).1; omega
  generalize allowsLo l0 l1 ms x day = a1 at *
  generalize allowsHi l0 l1 ms x day = a2 at *
  obtain ⟨xc, xd, xl, xh⟩ := x
  clear hxy' hat hat2 hR hx hxr hbd
  generalize rs.length = n at *
  generalize ms.length = m at *
  go_enter Try.func57, Try.ntmps57
  go_wp2_with fail
  refine wp_world ?_
  intro W hW_W
  have hb_W : Below w.heap.size w W := by rw [hW_W]; go_grown
  have N0 : W.heap[w.heap.size]? = some (.cells #[.int .i64 l0, .int .i64 l1, .slice (some ⟨bb, o, none⟩) n c, .slice A2 m c2] 49 (0, 0)) := by rw [hW_W]; exact bk_alloc (bk_new _ _ rfl) _
  have N1 : W.heap[w.heap.size + 1]? = some (.cells #[.int .i64 0, .int .i64 0] 24 (0, 0)) := by rw [hW_W]; exact bk_new _ _ (by simp)
  clear hW_W
  have C0 := bk4 N0
  have C1 := bk2 N1
  obtain ⟨hbb, hcx⟩ := hxy.out W hb_W
  have x0 := hcx 0 _ rfl
  have x1 := hcx 1 _ rfl
  have x2 := hcx 2 _ rfl
  have x3 := hcx 3 _ rfl
  simp only [Nat.add_zero] at x0
  dsimp only at x0 x1 x2 x3 hA
  clear hcx
  refine region_in w 9 (by kernel_rfl) (by kernel_rfl) (by go_grown) ?_
  intro hgc hbx
  simp only [List.take_succ_cons, List.take_zero, List.drop_succ_cons, List.drop_zero]
  repeat (go_big_quiet_step ((first | (go_at_call 107; exact Grew.call (hA.out _ _ _ (hbx.out _))) | (go_at_call 111; exact Grew.call (hT.out _)))))
  refine wpQuiet_nil ?_
  intro wb hb_wb hw_wb hs_wb
  clear hgc hbx
  have C1 := bk2 (bk_keep hb_wb N1)
  go_wp2
  refine bodyPost_ret (v := .agg #[.int .i64 (a1 / 1000), .int .i64 (-(-a2 / 1000))]) ?_ rfl ⟨rfl, by go_grown⟩
  simp [results, Try.results57, go_sem, C1]

set_option maxRecDepth 100000 in
set_option maxHeartbeats 1000000 in
theorem refGone_any (l0 l1 : Int) (A A2 : Option Addr) (rs : List Rd) (ms : List Mv) (c c2 : Nat) (a b : Nat) (x y : Rd) (w : World) (hR : Right l0 l1 rs ms) (hx : rs[a]? = some x) (hy : rs[b]? = some y)
    (hat : At 4 Rd.cs w A rs) (hat2 : At 4 Mv.cs w A2 ms) :
    Calls Try.prog 54 #[.agg #[.int .i64 l0, .int .i64 l1, .slice A rs.length c, .slice A2 ms.length c2], .agg #[.int .i64 (a : Int), .int .i64 (b : Int)]] w fun e w' =>
      e = .returned (.agg #[.int .i64 (goneP l0 l1 ms x y).1, .int .i64 (goneP l0 l1 ms x y).2]) ∧ Below w.heap.size w w' := by
  have hyr := hR.rd y (List.mem_of_getElem? hy)
  have hbd := allows_bd l0 l1 rs ms x y.d hR (List.mem_of_getElem? hx) hyr.1 hyr.2.1
  have hE := Lib.hid fun W (hW : Below w.heap.size w W) => refExpectedAt_any l0 l1 A A2 rs ms c c2 a y.d x W hR hx hyr.1 hyr.2.1 (hat.below hW) (hat2.below hW)
  unfold goneP
  dsimp only
  have hrb : -20000001 ≤ (rngV l0 l1 ms x y.d).1 ∧ (rngV l0 l1 ms x y.d).1 ≤ 20000001 ∧ -20000001 ≤ (rngV l0 l1 ms x y.d).2 ∧ (rngV l0 l1 ms x y.d).2 ≤ 20000001 := by unfold rngV; dsimp only; omega
  generalize rngV l0 l1 ms x y.d = r at *
  obtain ⟨r1, r2⟩ := r
  dsimp only at hrb hE ⊢
  obtain ⟨q1, q2, q3, q4⟩ := hrb
  obtain ⟨-, -, k1, k2, k3, k4⟩ := hyr
  obtain ⟨bb, o, rfl, hxy'⟩ := hat.two' hx hy
  have hxy := Lib.hid hxy'
  have hil : (a : Int) < (rs.length : Int) := by have := (List.getElem?_eq_some_iff.1 hx).1; omega
  have hjl : (b : Int) < (rs.length : Int) := by have := (List.getElem?_eq_some_iff.1 hy).1; omega
  obtain ⟨xc, xd, xl, xh⟩ := x
  obtain ⟨yc, yd, yl, yh⟩ := y
  dsimp only at k1 k2 k3 k4 hE ⊢
  clear hxy' hat hat2 hR hx hy hbd
  generalize rs.length = n at *
  generalize ms.length = m at *
  obtain ⟨hbb, hcx, hcy⟩ := hxy.out w (Below.refl _ _)
  have x0 := hcx 0 _ rfl
  have x1 := hcx 1 _ rfl
  have x2 := hcx 2 _ rfl
  have x3 := hcx 3 _ rfl
  have y0 := hcy 0 _ rfl
  have y1 := hcy 1 _ rfl
  have y2 := hcy 2 _ rfl
  have y3 := hcy 3 _ rfl
  simp only [Nat.add_zero] at x0 y0
  dsimp only at x0 x1 x2 x3 y0 y1 y2 y3
  clear hcx hcy
  have hbb1 : bb < w.heap.size + 1 := by omega
  have hbb2 : bb < w.heap.size + 1 + 1 := by omega
  go_enter Try.func54, Try.ntmps54
  go_wp2_with (go_at_call 57; refine (hE.out _ ?_).mono ?_; (· go_grown); rintro e w1 ⟨rfl, hb⟩; have hbw := via (by go_grown : Below w.heap.size w _) hb; have hsw := hbw.size; have B0 : w1.heap[w.heap.size + 1 + 1]? = some (.cells #[.int .i64 0, .int .i64 0] 24 (0, 0)) := bk_keep hb (by (repeat (first | assumption | (refine bk_new _ _ ?_; (simp; done)) | refine bk_drew ?_ | refine bk_alloc ?_ _ | refine bk_set ?_ (by simp <;> omega) _))); have B1 : w1.heap[w.heap.size + 1 + 1 + 1]? = some (.cells #[.string yc, .int .i64 yd, .int .i64 yl, .int .i64 yh] 73 (0, 0)) := bk_keep hb (by (repeat (first | assumption | (refine bk_new _ _ ?_; (simp; done)) | refine bk_drew ?_ | refine bk_alloc ?_ _ | refine bk_set ?_ (by simp <;> omega) _))); have C0 := bk2 B0; have C1 := bk4 B1)
  refine bodyPost_ret (v := .agg #[.int .i64 (r1 - yh), .int .i64 (r2 - yl)]) ?_ rfl ⟨rfl, by go_grown⟩
  simp [results, Try.results54, go_sem, C0]
end Go.Proofs

namespace Go.Proofs
open Go.RowKit

set_option maxRecDepth 100000 in
set_option maxHeartbeats 1000000 in
theorem refPairErr_any (l0 l1 : Int) (A A2 : Option Addr) (rs : List Rd) (c n2 c2 : Nat) (i j : Int) (w : World) (hnl : rs.length ≤ 1000000) (hat : At 4 Rd.cs w A rs) :
    Calls Try.prog 52 #[.agg #[.int .i64 l0, .int .i64 l1, .slice A rs.length c, .slice A2 n2 c2], .agg #[.int .i64 i, .int .i64 j]] w fun e w' =>
      e = .returned (.int .i64 (pairE rs i j)) ∧ Below w.heap.size w w' := by
  have hat' := Lib.hid hat
  unfold pairE
  obtain ⟨n, hn⟩ : ∃ n, rs.length = n := ⟨_, rfl⟩
  have hn' := Lib.hid hn
  rw [hn] at hnl ⊢
  have hI := Lib.hid fun W => refWithin_any i 0 ((n : Int) - 1) W
  have hJ := Lib.hid fun W => refWithin_any j 0 ((n : Int) - 1) W
  clear hn hat
  cases hi : within i 0 ((n : Int) - 1)
  · rw [hi] at hI
    simp only [Bool.false_eq_true, false_and, if_false]
    clear hi hJ hat'
    go_enter Try.func52, Try.ntmps52
    go_wp2_with (first | (go_at_call 19; refine Calls.mono (by with_reducible exact hI.out _) ?_; rintro e w' ⟨rfl, rfl⟩))
    go_ret
    exact ⟨rfl, by go_grown⟩
  cases hj : within j 0 ((n : Int) - 1)
  · rw [hi] at hI
    rw [hj] at hJ
    simp only [Bool.false_eq_true, and_false, if_false]
    clear hi hj hat'
    go_enter Try.func52, Try.ntmps52
    go_wp2_with (first | (go_at_call 19; refine Calls.mono (by with_reducible exact hI.out _) ?_; rintro e w' ⟨rfl, rfl⟩) | (go_at_call 19; refine Calls.mono (by with_reducible exact hJ.out _) ?_; rintro e w' ⟨rfl, rfl⟩))
    go_ret
    exact ⟨rfl, by go_grown⟩
  simp only [true_and, if_true]
  rw [hi] at hI
  rw [hj] at hJ
  obtain ⟨i1, i2⟩ := within_true hi
  obtain ⟨j1, j2⟩ := within_true hj
  obtain ⟨a, rfl⟩ : ∃ a : Nat, i = a := ⟨i.toNat, by omega⟩
  obtain ⟨b, rfl⟩ : ∃ b : Nat, j = b := ⟨j.toNat, by omega⟩
  obtain ⟨x, hx⟩ : ∃ x, rs[a]? = some x := ⟨_, List.getElem?_eq_getElem (by rw [hn'.out]; omega)⟩
  obtain ⟨y, hy⟩ : ∃ y, rs[b]? = some y := ⟨_, List.getElem?_eq_getElem (by rw [hn'.out]; omega)⟩
  rw [Int.toNat_natCast, Int.toNat_natCast, hx, hy]
  dsimp only
  obtain ⟨bb, o, rfl, hxy'⟩ := hat'.out.two' hx hy
  have hxy := Lib.hid hxy'
  obtain ⟨xc, xd, xl, xh⟩ := x
  obtain ⟨yc, yd, yl, yh⟩ := y
  unfold eqS
  dsimp only
  obtain ⟨q, hq⟩ : ∃ q, (xc.toList == yc.toList) = q := ⟨_, rfl⟩
  rw [hq]
  have hi3 : (a : Int) < (n : Int) := by omega
  have hj3 : (b : Int) < (n : Int) := by omega
  clear hi hj hx hy hat' hn' i2 j2 hxy'
  cases q
  · go_enter Try.func52, Try.ntmps52
    go_wp2_with (first | (go_at_call 19; refine Calls.mono (by with_reducible exact hI.out _) ?_; rintro e w' ⟨rfl, rfl⟩) | (go_at_call 19; refine Calls.mono (by with_reducible exact hJ.out _) ?_; rintro e w' ⟨rfl, rfl⟩))
    refine wp_world ?_
    intro W hW_W
    have hb_W : Below w.heap.size w W := by rw [hW_W]; go_grown
    have N0 : W.heap[w.heap.size]? = some (.cells #[.int .i64 l0, .int .i64 l1, .slice (some ⟨bb, o, none⟩) n c, .slice A2 n2 c2] 49 (0, 0)) := by rw [hW_W]; exact bk_alloc (bk_new _ _ rfl) _
    have N1 : W.heap[w.heap.size + 1]? = some (.cells #[.int .i64 (a : Int), .int .i64 (b : Int)] 42 (0, 0)) := by rw [hW_W]; exact bk_new _ _ (by simp)
    clear hW_W
    have C0 := bk4 N0
    have C1 := bk2 N1
    obtain ⟨hbb, hcx, hcy⟩ := hxy.out W (hb_W)
    have x0 := hcx 0 _ rfl
    have x1 := hcx 1 _ rfl
    have x2 := hcx 2 _ rfl
    have x3 := hcx 3 _ rfl
    have y0 := hcy 0 _ rfl
    have y1 := hcy 1 _ rfl
    have y2 := hcy 2 _ rfl
    have y3 := hcy 3 _ rfl
    simp only [Nat.add_zero] at x0 y0
    dsimp only at x0 x1 x2 x3 y0 y1 y2 y3
    clear hcx hcy
    refine region_all w (by kernel_rfl) (by kernel_rfl) (by go_grown) ?_
    intro hgc hbx
    repeat (go_big_quiet_step (fail))
    refine wpQuiet_nil ?_
    intro wa hb hbw hsw
    clear hgc hbx C0 C1 x0 x1 x2 x3 y0 y1 y2 y3 hbb
    replace N0 := bk_keep hb N0
    replace N1 := bk_keep hb N1
    have C0 := bk4 N0
    have C1 := bk2 N1
    obtain ⟨hbb, hcx, hcy⟩ := hxy.out wa (hbw)
    have x0 := hcx 0 _ rfl
    have x1 := hcx 1 _ rfl
    have x2 := hcx 2 _ rfl
    have x3 := hcx 3 _ rfl
    have y0 := hcy 0 _ rfl
    have y1 := hcy 1 _ rfl
    have y2 := hcy 2 _ rfl
    have y3 := hcy 3 _ rfl
    simp only [Nat.add_zero] at x0 y0
    dsimp only at x0 x1 x2 x3 y0 y1 y2 y3
    clear hcx hcy
    clear hb hb_W hsw
    go_wp2
    go_ret
    exact ⟨rfl, by go_grown⟩
  by_cases h1 : a < b
  · have i1 : (a : Int) < (b : Int) := by omega
    have d1 : decide ((b : Int) ≤ (a : Int)) = false := decide_eq_false (by omega)
    have d2 : decide (b ≤ a) = false := decide_eq_false (by omega)
    by_cases h2 : xd ≤ yd
    · have d3 : decide (yd < xd) = false := decide_eq_false (by omega)
      go_enter Try.func52, Try.ntmps52
      go_wp2_with (first | (go_at_call 19; refine Calls.mono (by with_reducible exact hI.out _) ?_; rintro e w' ⟨rfl, rfl⟩) | (go_at_call 19; refine Calls.mono (by with_reducible exact hJ.out _) ?_; rintro e w' ⟨rfl, rfl⟩))
      refine wp_world ?_
      intro W hW_W
      have hb_W : Below w.heap.size w W := by rw [hW_W]; go_grown
      have N0 : W.heap[w.heap.size]? = some (.cells #[.int .i64 l0, .int .i64 l1, .slice (some ⟨bb, o, none⟩) n c, .slice A2 n2 c2] 49 (0, 0)) := by rw [hW_W]; exact bk_alloc (bk_new _ _ rfl) _
      have N1 : W.heap[w.heap.size + 1]? = some (.cells #[.int .i64 (a : Int), .int .i64 (b : Int)] 42 (0, 0)) := by rw [hW_W]; exact bk_new _ _ (by simp)
      clear hW_W
      have C0 := bk4 N0
      have C1 := bk2 N1
      obtain ⟨hbb, hcx, hcy⟩ := hxy.out W (hb_W)
      have x0 := hcx 0 _ rfl
      have x1 := hcx 1 _ rfl
      have x2 := hcx 2 _ rfl
      have x3 := hcx 3 _ rfl
      have y0 := hcy 0 _ rfl
      have y1 := hcy 1 _ rfl
      have y2 := hcy 2 _ rfl
      have y3 := hcy 3 _ rfl
      simp only [Nat.add_zero] at x0 y0
      dsimp only at x0 x1 x2 x3 y0 y1 y2 y3
      clear hcx hcy
      refine region_all w (by kernel_rfl) (by kernel_rfl) (by go_grown) ?_
      intro hgc hbx
      repeat (go_big_quiet_step (fail))
      refine wpQuiet_nil ?_
      intro wa hb hbw hsw
      clear hgc hbx C0 C1 x0 x1 x2 x3 y0 y1 y2 y3 hbb
      replace N0 := bk_keep hb N0
      replace N1 := bk_keep hb N1
      have C0 := bk4 N0
      have C1 := bk2 N1
      obtain ⟨hbb, hcx, hcy⟩ := hxy.out wa (hbw)
      have x0 := hcx 0 _ rfl
      have x1 := hcx 1 _ rfl
      have x2 := hcx 2 _ rfl
      have x3 := hcx 3 _ rfl
      have y0 := hcy 0 _ rfl
      have y1 := hcy 1 _ rfl
      have y2 := hcy 2 _ rfl
      have y3 := hcy 3 _ rfl
      simp only [Nat.add_zero] at x0 y0
      dsimp only at x0 x1 x2 x3 y0 y1 y2 y3
      clear hcx hcy
      clear hb hb_W hsw
      go_wp2_with fail
      refine region_all w (by kernel_rfl) (by kernel_rfl) (by go_grown) ?_
      intro hgc hbx
      repeat (go_big_quiet_step (fail))
      refine wpQuiet_nil ?_
      intro wz hb hbwz hsw
      clear hgc hbx
      go_wp2
      go_ret
      refine ⟨?_, by go_grown⟩
      first | rfl | (simp; done) | (simp; omega)
    · have d3 : decide (yd < xd) = true := decide_eq_true (by omega)
      go_enter Try.func52, Try.ntmps52
      go_wp2_with (first | (go_at_call 19; refine Calls.mono (by with_reducible exact hI.out _) ?_; rintro e w' ⟨rfl, rfl⟩) | (go_at_call 19; refine Calls.mono (by with_reducible exact hJ.out _) ?_; rintro e w' ⟨rfl, rfl⟩))
      refine wp_world ?_
      intro W hW_W
      have hb_W : Below w.heap.size w W := by rw [hW_W]; go_grown
      have N0 : W.heap[w.heap.size]? = some (.cells #[.int .i64 l0, .int .i64 l1, .slice (some ⟨bb, o, none⟩) n c, .slice A2 n2 c2] 49 (0, 0)) := by rw [hW_W]; exact bk_alloc (bk_new _ _ rfl) _
      have N1 : W.heap[w.heap.size + 1]? = some (.cells #[.int .i64 (a : Int), .int .i64 (b : Int)] 42 (0, 0)) := by rw [hW_W]; exact bk_new _ _ (by simp)
      clear hW_W
      have C0 := bk4 N0
      have C1 := bk2 N1
      obtain ⟨hbb, hcx, hcy⟩ := hxy.out W (hb_W)
      have x0 := hcx 0 _ rfl
      have x1 := hcx 1 _ rfl
      have x2 := hcx 2 _ rfl
      have x3 := hcx 3 _ rfl
      have y0 := hcy 0 _ rfl
      have y1 := hcy 1 _ rfl
      have y2 := hcy 2 _ rfl
      have y3 := hcy 3 _ rfl
      simp only [Nat.add_zero] at x0 y0
      dsimp only at x0 x1 x2 x3 y0 y1 y2 y3
      clear hcx hcy
      refine region_all w (by kernel_rfl) (by kernel_rfl) (by go_grown) ?_
      intro hgc hbx
      repeat (go_big_quiet_step (fail))
      refine wpQuiet_nil ?_
      intro wa hb hbw hsw
      clear hgc hbx C0 C1 x0 x1 x2 x3 y0 y1 y2 y3 hbb
      replace N0 := bk_keep hb N0
      replace N1 := bk_keep hb N1
      have C0 := bk4 N0
      have C1 := bk2 N1
      obtain ⟨hbb, hcx, hcy⟩ := hxy.out wa (hbw)
      have x0 := hcx 0 _ rfl
      have x1 := hcx 1 _ rfl
      have x2 := hcx 2 _ rfl
      have x3 := hcx 3 _ rfl
      have y0 := hcy 0 _ rfl
      have y1 := hcy 1 _ rfl
      have y2 := hcy 2 _ rfl
      have y3 := hcy 3 _ rfl
      simp only [Nat.add_zero] at x0 y0
      dsimp only at x0 x1 x2 x3 y0 y1 y2 y3
      clear hcx hcy
      clear hb hb_W hsw
      go_wp2_with fail
      refine region_all w (by kernel_rfl) (by kernel_rfl) (by go_grown) ?_
      intro hgc hbx
      repeat (go_big_quiet_step (fail))
      refine wpQuiet_nil ?_
      intro wz hb hbwz hsw
      clear hgc hbx
      go_wp2
      go_ret
      refine ⟨?_, by go_grown⟩
      first | rfl | (simp; done) | (simp; omega)
  · have d1 : decide ((b : Int) ≤ (a : Int)) = true := decide_eq_true (by omega)
    have d2 : decide (b ≤ a) = true := decide_eq_true (by omega)
    go_enter Try.func52, Try.ntmps52
    go_wp2_with (first | (go_at_call 19; refine Calls.mono (by with_reducible exact hI.out _) ?_; rintro e w' ⟨rfl, rfl⟩) | (go_at_call 19; refine Calls.mono (by with_reducible exact hJ.out _) ?_; rintro e w' ⟨rfl, rfl⟩))
    refine wp_world ?_
    intro W hW_W
    have hb_W : Below w.heap.size w W := by rw [hW_W]; go_grown
    have N0 : W.heap[w.heap.size]? = some (.cells #[.int .i64 l0, .int .i64 l1, .slice (some ⟨bb, o, none⟩) n c, .slice A2 n2 c2] 49 (0, 0)) := by rw [hW_W]; exact bk_alloc (bk_new _ _ rfl) _
    have N1 : W.heap[w.heap.size + 1]? = some (.cells #[.int .i64 (a : Int), .int .i64 (b : Int)] 42 (0, 0)) := by rw [hW_W]; exact bk_new _ _ (by simp)
    clear hW_W
    have C0 := bk4 N0
    have C1 := bk2 N1
    obtain ⟨hbb, hcx, hcy⟩ := hxy.out W (hb_W)
    have x0 := hcx 0 _ rfl
    have x1 := hcx 1 _ rfl
    have x2 := hcx 2 _ rfl
    have x3 := hcx 3 _ rfl
    have y0 := hcy 0 _ rfl
    have y1 := hcy 1 _ rfl
    have y2 := hcy 2 _ rfl
    have y3 := hcy 3 _ rfl
    simp only [Nat.add_zero] at x0 y0
    dsimp only at x0 x1 x2 x3 y0 y1 y2 y3
    clear hcx hcy
    refine region_all w (by kernel_rfl) (by kernel_rfl) (by go_grown) ?_
    intro hgc hbx
    repeat (go_big_quiet_step (fail))
    refine wpQuiet_nil ?_
    intro wa hb hbw hsw
    clear hgc hbx C0 C1 x0 x1 x2 x3 y0 y1 y2 y3 hbb
    replace N0 := bk_keep hb N0
    replace N1 := bk_keep hb N1
    have C0 := bk4 N0
    have C1 := bk2 N1
    obtain ⟨hbb, hcx, hcy⟩ := hxy.out wa (hbw)
    have x0 := hcx 0 _ rfl
    have x1 := hcx 1 _ rfl
    have x2 := hcx 2 _ rfl
    have x3 := hcx 3 _ rfl
    have y0 := hcy 0 _ rfl
    have y1 := hcy 1 _ rfl
    have y2 := hcy 2 _ rfl
    have y3 := hcy 3 _ rfl
    simp only [Nat.add_zero] at x0 y0
    dsimp only at x0 x1 x2 x3 y0 y1 y2 y3
    clear hcx hcy
    clear hb hb_W hsw
    go_wp2_with fail
    refine region_all w (by kernel_rfl) (by kernel_rfl) (by go_grown) ?_
    intro hgc hbx
    repeat (go_big_quiet_step (fail))
    refine wpQuiet_nil ?_
    intro wz hb hbwz hsw
    clear hgc hbx
    go_wp2
    go_ret
    refine ⟨?_, by go_grown⟩
    first | rfl | (simp; done) | (simp; omega)

theorem neq42 (a b : Int) (W : World) : Sem.run Try.prog (binOp .neq 42 (.agg #[.int .i64 a, .int .i64 b]) (.agg #[.int .i64 a, .int .i64 b])) W = .ok (.bool false) W := by
  rw [run_neq_struct]
  have hi : Try.prog.info? 3 ≠ none := by
    intro h
    have : (Try.prog.info? 3).isSome = true := by kernel_rfl
    rw [h] at this
    cases this
  obtain ⟨i, hi⟩ := Option.ne_none_iff_exists'.1 hi
  have hc : Try.prog.cellsOf 3 = 1 := by kernel_rfl
  have hp0 : ∀ W, (Go.part 3 #[.int .i64 a, .int .i64 b] 0).run Try.prog W = .ok (.int .i64 a) W := fun _ => by kernel_rfl
  have hp1 : ∀ W, (Go.part 3 #[.int .i64 a, .int .i64 b] 1).run Try.prog W = .ok (.int .i64 b) W := fun _ => by kernel_rfl
  have he : ∀ (x : Int) W, (Op.equalIn 9999 3 (.int .i64 x) (.int .i64 x)).run Try.prog W = .ok true W := fun x W => by
    rw [show (9999 : Nat) = 9998 + 1 from rfl, run_equalIn_int W 9998 3 .i64 .i64 x x Try.underlying3]
    simp
  rw [show (10000 : Nat) = 9999 + 1 from rfl, run_equalIn_array _ _ _ _ Try.underlying42 hi, hc]
  simp only [List.range, List.range.loop, Op.eqItems, Sem.run_bind, Nat.zero_mul, Nat.one_mul, hp0, hp1, he, Result.andThen_ok]
  simp [hp0, hp1, he]
set_option maxRecDepth 100000 in
set_option maxHeartbeats 1000000 in
theorem same_any (A A2 : Option Addr) (l : List (Nat × Nat)) (c c2 : Nat) (w : World) (hn0 : l.length ≤ 1000000) (hat : At 2 Pc w A l) (hat2 : At 2 Pc w A2 l) :
    Calls Try.prog 50 #[.slice A l.length c, .slice A2 l.length c2] w fun e w' => e = .returned (.bool true) ∧ Below w.heap.size w w' := by
  have hat' := Lib.hid hat
  have hat2' := Lib.hid hat2
  obtain ⟨n, hn⟩ : ∃ n, l.length = n := ⟨_, rfl⟩
  have hn' := Lib.hid hn
  rw [hn] at hn0 ⊢
  clear hat hat2 hn
  go_enter Try.func50, Try.ntmps50
  go_wp2
  go_loopw [5] (fun i wr => ∃ k : Nat, k ≤ n ∧ i = .int .i64 k ∧ Below w.heap.size w wr) (fun i _ => n - (intOf i).toNat)
  case atStart => exact ⟨0, Nat.zero_le _, rfl, Below.refl _ _⟩
  case round =>
    obtain ⟨k, hk, rfl, hbw⟩ := hrel
    by_cases hlt : k < n
    · obtain ⟨p, hp⟩ : ∃ p, l[k]? = some p := ⟨_, List.getElem?_eq_getElem (by rw [hn'.out]; exact hlt)⟩
      obtain ⟨b, o, rfl, hbb, hc⟩ := hat'.out.below hbw k p hp
      obtain ⟨b2, o2, rfl, hbb2, hc2⟩ := hat2'.out.below hbw k p hp
      have x0 := hc 0 _ rfl
      have x1 := hc 1 _ rfl
      have y0 := hc2 0 _ rfl
      have y1 := hc2 1 _ rfl
      simp only [Nat.add_zero] at x0 y0
      clear hc hc2
      have hkn : (k : Int) < (n : Int) := by omega
      have hnq := neq42 (p.1 : Int) (p.2 : Int)
      go_wp2_with fail
      refine region_all w (by kernel_rfl) (by kernel_rfl) (by go_grown) ?_
      intro hgc hbx
      repeat (go_big_quiet_step (fail))
      refine wpQuiet_nil ?_
      intro wa hb hbwa hsw
      clear hgc hbx
      go_wp2
      go_roundw
      case rel => exact ⟨k + 1, by omega, by go_num, hbwa⟩
      case measure => simp [intOf]; omega
    · have hkn : k = n := by omega
      subst hkn
      go_wp2
      go_ret
      exact ⟨rfl, hbw⟩
end Go.Proofs

namespace Go.Proofs
open Go.RowKit

theorem contra_one {l0 l1 : Int} {ms : List Mv} {x y : Rd} (h : contra l0 l1 ms x y = true) : 0 ≤ (goneP l0 l1 ms x y).1 ∨ (goneP l0 l1 ms x y).2 ≤ 0 := by
  unfold contra at h
  simp only [Bool.and_eq_true, Bool.or_eq_true, decide_eq_true_eq] at h
  unfold goneP rngV
  dsimp only
  omega
theorem bookV_stable (l0 l1 : Int) (rs : List Rd) (ms : List Mv) : ∀ V x x', BookV l0 l1 rs ms V x → Below x.heap.size x x' → BookV l0 l1 rs ms V x' := fun _ _ _ h hb => h.below hb

set_option maxRecDepth 100000 in
set_option maxHeartbeats 4000000 in
theorem gaugePairs_walk (w : World) (l0 l1 : Int) (A A2 : Option Addr) (rs : List Rd) (ms : List Mv) (c c2 : Nat)
    (_ : -9223372036854775808 ≤ l0) (_ : l0 ≤ 9223372036854775807) (_ : -9223372036854775808 ≤ l1) (_ : l1 ≤ 9223372036854775807)
    (hat : At 4 Rd.cs w A rs) (_ : rs.length ≤ c) (_ : A = none → c = 0) (hs : ∀ x ∈ rs, x.c.size ≤ maxLen) (hat2 : At 4 Mv.cs w A2 ms) (_ : ms.length ≤ c2) (_ : A2 = none → c2 = 0) (hs2 : ∀ x ∈ ms, x.f.size ≤ maxLen ∧ x.t.size ≤ maxLen)
    (i j : Int) (_ : -9223372036854775808 ≤ i) (_ : i ≤ 9223372036854775807) (_ : -9223372036854775808 ≤ j) (_ : j ≤ 9223372036854775807) :
    Calls Try.prog 13 #[.agg #[.int .i64 l0, .int .i64 l1, .slice A rs.length c, .slice A2 ms.length c2], .agg #[.int .i64 i, .int .i64 j]] w fun e w' => e = .returned (.bool true) ∧ Below w.heap.size w w' := by
  unfold maxLen at hs hs2
  have hFew := Lib.hid fun W (hb : Below w.heap.size w W) => few_any l0 l1 A A2 rs ms c c2 W hs (hat.below hb) hs2 (hat2.below hb)
  have hRef := Lib.hid fun W (hb : Below w.heap.size w W) => refBookErr_any l0 l1 A A2 rs ms c c2 W hs (hat.below hb) hs2 (hat2.below hb)
  have hCpy := Lib.hid fun (h1 : rs.length ≤ 1000) (h2 : ms.length ≤ 1000) W (hb : Below w.heap.size w W) => copyBook_any l0 l1 A A2 rs ms c c2 W h1 h2 (hat.below hb) (hat2.below hb)
  have hat' := Lib.hid hat
  have hat2' := Lib.hid hat2
  have hCon := Lib.hid fun (hn : rs.length ≤ 4611686018427387904) A A2 c c2 W (h1 : At 4 Rd.cs W A rs) (h2 : At 4 Mv.cs W A2 ms) => contradicts_any l0 l1 A A2 rs ms c c2 i j W hn hs h1 hs2 h2
  have hGon := Lib.hid fun (hn : rs.length ≤ 4611686018427387904) A A2 c c2 W (h1 : At 4 Rd.cs W A rs) (h2 : At 4 Mv.cs W A2 ms) => gone_any l0 l1 A A2 rs ms c c2 i j W hn hs h1 hs2 h2
  have hAll := Lib.hid fun A A2 c c2 W (h1 : At 4 Rd.cs W A rs) (h2 : At 4 Mv.cs W A2 ms) => contradictions_any l0 l1 A A2 rs ms c c2 W hs h1 hs2 h2
  have hPai := Lib.hid fun (hR : Right l0 l1 rs ms) W (hb : Below w.heap.size w W) => refPairs_any l0 l1 A A2 rs ms c c2 W hR (hat.below hb) (hat2.below hb)
  have hErr := Lib.hid fun (hn : rs.length ≤ 1000000) W (hb : Below w.heap.size w W) => refPairErr_any l0 l1 A A2 rs c ms.length c2 i j W hn (hat.below hb)
  have hctr := Lib.hid fun (a b : Nat) (x y : Rd) (hR : Right l0 l1 rs ms) (hx : rs[a]? = some x) (hy : rs[b]? = some y) W (hb : Below w.heap.size w W) => refContradict_any l0 l1 A A2 rs ms c c2 a b x y W hR hx hy (hat.below hb) (hat2.below hb)
  have hgn := Lib.hid fun (a b : Nat) (x y : Rd) (hR : Right l0 l1 rs ms) (hx : rs[a]? = some x) (hy : rs[b]? = some y) W (hb : Below w.heap.size w W) => refGone_any l0 l1 A A2 rs ms c c2 a b x y W hR hx hy (hat.below hb) (hat2.below hb)
  have hsame := Lib.hid fun A A2 c c2 W (hn : (allPairs l0 l1 rs ms).length ≤ 1000000) (h1 : At 2 Pc W A (allPairs l0 l1 rs ms)) (h2 : At 2 Pc W A2 (allPairs l0 l1 rs ms)) => same_any A A2 (allPairs l0 l1 rs ms) c c2 W hn h1 h2
  clear hat hat2 hs hs2
  go_enter Try.func13, Try.ntmps13
  go_wp2_with (first | (go_at_call 15; refine (awake_any _).mono ?_; rintro e w1 ⟨rfl, hb⟩; have hbw := via (by go_grown : Below w.heap.size w _) hb; have B0 : w1.heap[w.heap.size]? = some (.cells #[.int .i64 l0, .int .i64 l1, .slice A rs.length c, .slice A2 ms.length c2] 49 (0, 0)) := bk_keep hb (by (repeat (first | assumption | (refine bk_new _ _ ?_; (simp; done)) | refine bk_drew ?_ | refine bk_alloc ?_ _ | refine bk_set ?_ (by simp <;> omega) _))); have B1 : w1.heap[w.heap.size + 1]? = some (.cells #[.int .i64 i, .int .i64 j] 42 (0, 0)) := bk_keep hb (by (repeat (first | assumption | (refine bk_new _ _ ?_; (simp; done)) | refine bk_drew ?_ | refine bk_alloc ?_ _ | refine bk_set ?_ (by simp <;> omega) _))); have C0 := bk4 B0; have C1 := bk2 B1))
  refine (hFew.out _ hbw).mono ?_
  rintro e w2 ⟨⟨r, rfl, hr⟩, hb⟩
  have hbw := via hbw hb; replace B0 := bk_keep hb B0; replace B1 := bk_keep hb B1; replace C0 := bk4 B0; replace C1 := bk2 B1
  cases r with
  | false =>
    clear hr
    go_wp2_with fail
    refine bodyPost_ret (v := .bool true) ?_ rfl ⟨rfl, ?_⟩
    · simp [results, Try.results13, go_sem]
    · go_grown
  | true =>
  obtain ⟨g1, g2, -, -⟩ := hr rfl
  replace hCpy := Lib.hid (hCpy.out (by omega) (by omega))
  replace hCon := Lib.hid (hCon.out (by omega))
  replace hGon := Lib.hid (hGon.out (by omega))
  replace hErr := Lib.hid (hErr.out (by omega))
  clear hr hFew
  go_wp2_with fail
  apply region_cpq w 1 3 (fun h => .agg #[.int .i64 l0, .int .i64 l1, .slice h.a1 rs.length h.c1, .slice h.a2 ms.length h.c2]) (fun _ => .tuple #[.bool (contrasV l0 l1 rs ms i j), .int .i64 (pairEE l0 l1 rs ms i j)]) (fun h x => At 4 Rd.cs x h.a1 rs ∧ At 4 Mv.cs x h.a2 ms) (fun _ _ => True)
  case hm => kernel_rfl
  case hB => kernel_rfl
  case hB' => intro g; kernel_rfl
  case hS => kernel_rfl
  case hN => kernel_rfl
  case hne => decide
  case ht => kernel_rfl
  case hw => exact hbw
  case hs1 => exact fun h x x' ⟨h1, h2⟩ hb => ⟨h1.below hb, h2.below hb⟩
  case hs2 => exact fun _ _ _ _ _ => trivial
  case hq =>
    intro g u hu hgc hbx hbX
    have D0 := bk4 (bk_keep hu B0)
    have D1 := bk2 (bk_keep hu B1)
    simp only [mixL, yieldsC, List.contains_cons, List.contains_nil, Nat.reduceAdd, Nat.reduceBEq, Nat.zero_add, Bool.or_false, Bool.or_true, Bool.false_or, Bool.true_or, Bool.false_eq_true, if_true, if_false, Bool.or_self]
    repeat (go_big_quiet_step (fail))
    exact wpQuiet_nil rfl
  case hind => intro j hj; simp only [List.mem_cons, List.not_mem_nil, or_false] at hj; rcases hj with rfl | rfl <;> (intro g h; kernel_rfl)
  case hcp =>
    intro o ho g x hx hw
    simp only [List.getElem?_cons_succ, List.getElem?_cons_zero, Option.some.injEq] at ho
    subst ho
    exact ⟨28, #[.agg #[.int .i64 l0, .int .i64 l1, .slice A rs.length c, .slice A2 ms.length c2]], by kernel_rfl, (hCpy.out x hw).mono fun e x' ⟨⟨A', c', B', d', he, h1, h2⟩, hb⟩ => ⟨⟨0, A', B', none, c', d', 0⟩, he, ⟨h1, h2⟩, hb⟩⟩
  case hcl =>
    intro o ho g x hx hw hp
    simp only [List.getElem?_cons_succ, List.getElem?_cons_zero, Option.some.injEq] at ho
    subst ho
    exact ⟨48, #[.agg #[.int .i64 l0, .int .i64 l1, .slice (g 1).a1 rs.length (g 1).c1, .slice (g 1).a2 ms.length (g 1).c2], .agg #[.int .i64 i, .int .i64 j]], by kernel_rfl, (hCon.out _ _ _ _ x hp.1 hp.2).mono fun e x' ⟨he, hb⟩ => ⟨Gh.zero, he, trivial, hb⟩⟩
  case hend =>
  intro g u hu hbu _
  replace B0 := bk_keep hu B0
  replace B1 := bk_keep hu B1
  replace C0 := bk4 B0
  replace C1 := bk2 B1
  have hbw := hbu
  clear hu hbu hb hCon
  go_wp2_with (first | (go_at_call 28; refine (hCpy.out _ hbw).mono ?_; rintro e w3 ⟨⟨A3, c3, B3, d3, rfl, h3, h4⟩, hb⟩; have hbw := via hbw hb; replace B0 := bk_keep hb B0; replace B1 := bk_keep hb B1; replace C0 := bk4 B0; replace C1 := bk2 B1) | (go_at_call 38; refine (hAll.out _ _ _ _ _ h3 h4).mono ?_; rintro e w4 ⟨⟨A5, c5, rfl, h5⟩, hb⟩; have hbw := via hbw hb; replace B0 := bk_keep hb B0; replace B1 := bk_keep hb B1; replace C0 := bk4 B0; replace C1 := bk2 B1))
  have h5' := Lib.hid h5
  clear h3 h4 h5 hAll hb
  apply region_copy w 1 3 7 8 33 35 9 (BookV l0 l1 rs ms) ((.tuple #[.agg #[.int .i64 (goneVV l0 l1 rs ms i j).1, .int .i64 (goneVV l0 l1 rs ms i j).2], .int .i64 (pairEE l0 l1 rs ms i j)])) (.cells #[.int .i64 0, .int .i64 0] 24 (0, 0)) (.cells #[.int .i64 (goneVV l0 l1 rs ms i j).1, .int .i64 (goneVV l0 l1 rs ms i j).2] 24 (0, 0))
  case hm => kernel_rfl
  case hB => kernel_rfl
  case hB' => kernel_rfl
  case hS => kernel_rfl
  case hN => kernel_rfl
  case hw => exact hbw
  case hst => exact (bookV_stable l0 l1 rs ms)
  case hal => intro o ho; simp at ho; subst ho; intro a x; kernel_rfl
  case hq =>
    intro u hu hgc hbx hbX
    have D0 := bk4 (bk_keep hu B0)
    have D1 := bk2 (bk_keep hu B1)
    simp only [dummyC, struck, yieldsC, Nat.reduceAdd, Nat.reduceBEq, Nat.zero_add, Bool.or_false, Bool.or_true, Bool.false_or, Bool.true_or, Bool.false_eq_true, if_true, if_false, Bool.or_self]
    repeat (go_big_quiet_step (fail))
    exact wpQuiet_nil rfl
  case hcp =>
    intro o ho x hx hw
    simp only [List.getElem?_cons_succ, List.getElem?_cons_zero, Option.some.injEq] at ho
    subst ho
    exact ⟨28, #[.agg #[.int .i64 l0, .int .i64 l1, .slice A rs.length c, .slice A2 ms.length c2]], by kernel_rfl, (hCpy.out x hw).mono fun e x' ⟨⟨A', c', B', d', he, h1, h2⟩, hb⟩ => ⟨_, he, ⟨A', c', B', d', rfl, h1, h2⟩, hb⟩⟩
  case hcl =>
    intro o ho V x hx hw hp
    simp only [List.getElem?_cons_succ, List.getElem?_cons_zero, Option.some.injEq] at ho
    subst ho
    obtain ⟨A', c', B', d', rfl, h1, h2⟩ := hp
    exact ⟨49, #[.agg #[.int .i64 l0, .int .i64 l1, .slice A' rs.length c', .slice B' ms.length d'], .agg #[.int .i64 i, .int .i64 j]], by kernel_rfl, hGon.out _ _ _ _ x h1 h2⟩
  case hsto =>
    intro o ho B x hx hB hz
    simp only [List.getElem?_cons_succ, List.getElem?_cons_zero, Option.some.injEq] at ho
    subst ho
    exact ⟨_, run_store2 rfl rfl rfl (by kernel_rfl) (by kernel_rfl) (by kernel_rfl) hz, below_in (below_in hx hB _) hB _, bk_here (bk_here hz _ rfl) _ rfl⟩
  case h =>
  intro M V u hM hu hbu hz
  simp only [Act.put, List.setIfInBounds_toArray, List.set_cons_succ, List.set_cons_zero]
  replace B0 := bk_keep hu B0
  replace B1 := bk_keep hu B1
  replace C0 := bk4 B0
  replace C1 := bk2 B1
  have C2 := bk2 hz
  have hbw := hbu
  replace h5' := Lib.hid (h5'.out.below hu)
  clear hu hbu hGon
  by_cases hd : (checkB l0 l1 rs ms).2 = 0
  case neg =>
    have q1 : pairEE l0 l1 rs ms i j = (checkB l0 l1 rs ms).2 := by unfold pairEE; simp [firstE, hd]
    have q2 : contrasV l0 l1 rs ms i j = false := by unfold contrasV; rw [q1, decide_eq_false hd, Bool.false_and]
    have q3 : goneVV l0 l1 rs ms i j = (0, 0) := by unfold goneVV; rw [q1, if_neg hd]
    have q4 : contV l0 l1 rs ms = [] := by unfold contV; rw [if_neg hd]
    rw [q1, q2, q3, q4]
    rw [q3] at hz C2
    have z2 : ((checkB l0 l1 rs ms).2 != 0) = true := by simpa using hd
    clear q1 q2 q3 q4 hd h5' hPai hctr hgn hsame hErr hCpy
    generalize (checkB l0 l1 rs ms).2 = d at *
    dsimp only at hz C2
    go_wp2_with (first | (go_at_call 36; refine (hRef.out _ hbw).mono ?_; rintro e w5 ⟨rfl, hb⟩; have hbw := via hbw hb; replace B0 := bk_keep hb B0; replace B1 := bk_keep hb B1; replace C0 := bk4 B0; replace C1 := bk2 B1; replace hz := bk_keep hb hz; replace C2 := bk2 hz))
    refine bodyPost_ret (v := .bool true) ?_ rfl ⟨rfl, ?_⟩
    · simp [results, Try.results13, go_sem]
    · go_grown
  have hR := right_of hd
  replace hPai := Lib.hid (hPai.out hR)
  have hpl := allPairs_len l0 l1 rs ms hR.rn
  have q1 : pairEE l0 l1 rs ms i j = pairE rs i j := by
    unfold pairEE
    rw [hd]
    by_cases hx : pairE rs i j = 0 <;> simp [firstE, hx]
  have q4 : contV l0 l1 rs ms = allPairs l0 l1 rs ms := by unfold contV; rw [if_pos hd]
  rw [q1, q4, hd]
  rw [q4] at h5'
  rw [hd] at hRef
  by_cases hP : pairE rs i j = 0
  case neg =>
    have q2 : contrasV l0 l1 rs ms i j = false := by unfold contrasV; rw [q1, decide_eq_false hP, Bool.false_and]
    have q3 : goneVV l0 l1 rs ms i j = (0, 0) := by unfold goneVV; rw [q1, if_neg hP]
    rw [q2, q3]
    rw [q3] at hz C2
    have z2 : (pairE rs i j != 0) = true := by simpa using hP
    clear q1 q2 q3 q4 hd hctr hgn hCpy hR
    generalize pairE rs i j = d at *
    generalize (allPairs l0 l1 rs ms).length = np at *
    dsimp only at hz C2
    go_wp2_with (first | (go_at_call 36; refine (hRef.out _ hbw).mono ?_; rintro e w5 ⟨rfl, hb⟩; have hbw := via hbw hb; replace B0 := bk_keep hb B0; replace B1 := bk_keep hb B1; replace C0 := bk4 B0; replace C1 := bk2 B1; replace hz := bk_keep hb hz; replace C2 := bk2 hz; replace h5' := Lib.hid (h5'.out.below hb)) | (go_at_call 51; refine (hPai.out _ hbw).mono ?_; rintro e w6 ⟨⟨A6, c6, rfl, h6⟩, hb⟩; have hbw := via hbw hb; replace B0 := bk_keep hb B0; replace B1 := bk_keep hb B1; replace C0 := bk4 B0; replace C1 := bk2 B1; replace hz := bk_keep hb hz; replace C2 := bk2 hz; replace h5' := Lib.hid (h5'.out.below hb); have h6' := Lib.hid h6; clear h6) | (go_at_call 50; refine (hsame.out _ _ _ _ _ (by omega) h5'.out h6'.out).mono ?_; rintro e w7 ⟨rfl, hb⟩; have hbw := via hbw hb; replace B0 := bk_keep hb B0; replace B1 := bk_keep hb B1; replace C0 := bk4 B0; replace C1 := bk2 B1; replace hz := bk_keep hb hz; replace C2 := bk2 hz) | (go_at_call 52; refine (hErr.out _ hbw).mono ?_; rintro e w8 ⟨rfl, hb⟩; have hbw := via hbw hb; replace B0 := bk_keep hb B0; replace B1 := bk_keep hb B1; replace C0 := bk4 B0; replace C1 := bk2 B1; replace hz := bk_keep hb hz; replace C2 := bk2 hz))
    refine bodyPost_ret (v := .bool true) ?_ rfl ⟨rfl, ?_⟩
    · simp [results, Try.results13, go_sem]
    · go_grown
  obtain ⟨a, b, x, y, rfl, rfl, hx, hy, -⟩ := pairE_zero hP
  have q2 : contrasV l0 l1 rs ms a b = contra l0 l1 ms x y := by
    unfold contrasV contraAt
    rw [q1, decide_eq_true hP, Int.toNat_natCast, Int.toNat_natCast, hx, hy]
    rfl
  have q3 : goneVV l0 l1 rs ms a b = goneP l0 l1 ms x y := by
    unfold goneVV
    rw [q1, if_pos hP, Int.toNat_natCast, Int.toNat_natCast, hx, hy]
  rw [q2, q3, hP]
  rw [q3] at hz C2
  rw [hP] at hErr
  have hone : contra l0 l1 ms x y = true → _ := contra_one
  replace hctr := Lib.hid (hctr.out a b x y hR hx hy)
  replace hgn := Lib.hid (hgn.out a b x y hR hx hy)
  clear q1 q2 q3 q4 hd hCpy hR hx hy hP
  generalize contra l0 l1 ms x y = C at *
  generalize goneP l0 l1 ms x y = G at *
  obtain ⟨G1, G2⟩ := G
  generalize (allPairs l0 l1 rs ms).length = np at *
  dsimp only at hz C2 hgn hone
  cases C
  · clear hone
    go_wp2_with (first | (go_at_call 36; refine (hRef.out _ hbw).mono ?_; rintro e w5 ⟨rfl, hb⟩; have hbw := via hbw hb; replace B0 := bk_keep hb B0; replace B1 := bk_keep hb B1; replace C0 := bk4 B0; replace C1 := bk2 B1; replace hz := bk_keep hb hz; replace C2 := bk2 hz; replace h5' := Lib.hid (h5'.out.below hb)) | (go_at_call 51; refine (hPai.out _ hbw).mono ?_; rintro e w6 ⟨⟨A6, c6, rfl, h6⟩, hb⟩; have hbw := via hbw hb; replace B0 := bk_keep hb B0; replace B1 := bk_keep hb B1; replace C0 := bk4 B0; replace C1 := bk2 B1; replace hz := bk_keep hb hz; replace C2 := bk2 hz; replace h5' := Lib.hid (h5'.out.below hb); have h6' := Lib.hid h6; clear h6) | (go_at_call 50; refine (hsame.out _ _ _ _ _ (by omega) h5'.out h6'.out).mono ?_; rintro e w7 ⟨rfl, hb⟩; have hbw := via hbw hb; replace B0 := bk_keep hb B0; replace B1 := bk_keep hb B1; replace C0 := bk4 B0; replace C1 := bk2 B1; replace hz := bk_keep hb hz; replace C2 := bk2 hz) | (go_at_call 52; refine (hErr.out _ hbw).mono ?_; rintro e w8 ⟨rfl, hb⟩; have hbw := via hbw hb; replace B0 := bk_keep hb B0; replace B1 := bk_keep hb B1; replace C0 := bk4 B0; replace C1 := bk2 B1; replace hz := bk_keep hb hz; replace C2 := bk2 hz))
    refine region_all w (by kernel_rfl) (by kernel_rfl) (by go_grown) ?_
    intro hgc hbx
    repeat (go_big_quiet_step (first | (go_at_call 53; exact Grew.call (hctr.out _ (hbx.out _))) | (go_at_call 54; exact Grew.call (hgn.out _ (hbx.out _)))))
    refine wpQuiet_nil ?_
    intro w9 hb hbw9 hsw
    clear hgc hbx
    replace hz := bk_keep hb hz
    replace C2 := bk2 hz
    go_wp2
    refine bodyPost_ret (v := .bool true) ?_ rfl ⟨rfl, hbw9⟩
    simp [results, Try.results13, go_sem]
  · rcases hone rfl with h | h
    · go_wp2_with (first | (go_at_call 36; refine (hRef.out _ hbw).mono ?_; rintro e w5 ⟨rfl, hb⟩; have hbw := via hbw hb; replace B0 := bk_keep hb B0; replace B1 := bk_keep hb B1; replace C0 := bk4 B0; replace C1 := bk2 B1; replace hz := bk_keep hb hz; replace C2 := bk2 hz; replace h5' := Lib.hid (h5'.out.below hb)) | (go_at_call 51; refine (hPai.out _ hbw).mono ?_; rintro e w6 ⟨⟨A6, c6, rfl, h6⟩, hb⟩; have hbw := via hbw hb; replace B0 := bk_keep hb B0; replace B1 := bk_keep hb B1; replace C0 := bk4 B0; replace C1 := bk2 B1; replace hz := bk_keep hb hz; replace C2 := bk2 hz; replace h5' := Lib.hid (h5'.out.below hb); have h6' := Lib.hid h6; clear h6) | (go_at_call 50; refine (hsame.out _ _ _ _ _ (by omega) h5'.out h6'.out).mono ?_; rintro e w7 ⟨rfl, hb⟩; have hbw := via hbw hb; replace B0 := bk_keep hb B0; replace B1 := bk_keep hb B1; replace C0 := bk4 B0; replace C1 := bk2 B1; replace hz := bk_keep hb hz; replace C2 := bk2 hz) | (go_at_call 52; refine (hErr.out _ hbw).mono ?_; rintro e w8 ⟨rfl, hb⟩; have hbw := via hbw hb; replace B0 := bk_keep hb B0; replace B1 := bk_keep hb B1; replace C0 := bk4 B0; replace C1 := bk2 B1; replace hz := bk_keep hb hz; replace C2 := bk2 hz))
      refine region_all w (by kernel_rfl) (by kernel_rfl) (by go_grown) ?_
      intro hgc hbx
      repeat (go_big_quiet_step (first | (go_at_call 53; exact Grew.call (hctr.out _ (hbx.out _))) | (go_at_call 54; exact Grew.call (hgn.out _ (hbx.out _)))))
      refine wpQuiet_nil ?_
      intro w9 hb hbw9 hsw
      clear hgc hbx
      replace hz := bk_keep hb hz
      replace C2 := bk2 hz
      go_wp2
      refine bodyPost_ret (v := .bool true) ?_ rfl ⟨rfl, hbw9⟩
      simp [results, Try.results13, go_sem]
    · by_cases h0 : 0 ≤ G1
      · go_wp2_with (first | (go_at_call 36; refine (hRef.out _ hbw).mono ?_; rintro e w5 ⟨rfl, hb⟩; have hbw := via hbw hb; replace B0 := bk_keep hb B0; replace B1 := bk_keep hb B1; replace C0 := bk4 B0; replace C1 := bk2 B1; replace hz := bk_keep hb hz; replace C2 := bk2 hz; replace h5' := Lib.hid (h5'.out.below hb)) | (go_at_call 51; refine (hPai.out _ hbw).mono ?_; rintro e w6 ⟨⟨A6, c6, rfl, h6⟩, hb⟩; have hbw := via hbw hb; replace B0 := bk_keep hb B0; replace B1 := bk_keep hb B1; replace C0 := bk4 B0; replace C1 := bk2 B1; replace hz := bk_keep hb hz; replace C2 := bk2 hz; replace h5' := Lib.hid (h5'.out.below hb); have h6' := Lib.hid h6; clear h6) | (go_at_call 50; refine (hsame.out _ _ _ _ _ (by omega) h5'.out h6'.out).mono ?_; rintro e w7 ⟨rfl, hb⟩; have hbw := via hbw hb; replace B0 := bk_keep hb B0; replace B1 := bk_keep hb B1; replace C0 := bk4 B0; replace C1 := bk2 B1; replace hz := bk_keep hb hz; replace C2 := bk2 hz) | (go_at_call 52; refine (hErr.out _ hbw).mono ?_; rintro e w8 ⟨rfl, hb⟩; have hbw := via hbw hb; replace B0 := bk_keep hb B0; replace B1 := bk_keep hb B1; replace C0 := bk4 B0; replace C1 := bk2 B1; replace hz := bk_keep hb hz; replace C2 := bk2 hz))
        refine region_all w (by kernel_rfl) (by kernel_rfl) (by go_grown) ?_
        intro hgc hbx
        repeat (go_big_quiet_step (first | (go_at_call 53; exact Grew.call (hctr.out _ (hbx.out _))) | (go_at_call 54; exact Grew.call (hgn.out _ (hbx.out _)))))
        refine wpQuiet_nil ?_
        intro w9 hb hbw9 hsw
        clear hgc hbx
        replace hz := bk_keep hb hz
        replace C2 := bk2 hz
        go_wp2
        refine bodyPost_ret (v := .bool true) ?_ rfl ⟨rfl, hbw9⟩
        simp [results, Try.results13, go_sem]
      · go_wp2_with (first | (go_at_call 36; refine (hRef.out _ hbw).mono ?_; rintro e w5 ⟨rfl, hb⟩; have hbw := via hbw hb; replace B0 := bk_keep hb B0; replace B1 := bk_keep hb B1; replace C0 := bk4 B0; replace C1 := bk2 B1; replace hz := bk_keep hb hz; replace C2 := bk2 hz; replace h5' := Lib.hid (h5'.out.below hb)) | (go_at_call 51; refine (hPai.out _ hbw).mono ?_; rintro e w6 ⟨⟨A6, c6, rfl, h6⟩, hb⟩; have hbw := via hbw hb; replace B0 := bk_keep hb B0; replace B1 := bk_keep hb B1; replace C0 := bk4 B0; replace C1 := bk2 B1; replace hz := bk_keep hb hz; replace C2 := bk2 hz; replace h5' := Lib.hid (h5'.out.below hb); have h6' := Lib.hid h6; clear h6) | (go_at_call 50; refine (hsame.out _ _ _ _ _ (by omega) h5'.out h6'.out).mono ?_; rintro e w7 ⟨rfl, hb⟩; have hbw := via hbw hb; replace B0 := bk_keep hb B0; replace B1 := bk_keep hb B1; replace C0 := bk4 B0; replace C1 := bk2 B1; replace hz := bk_keep hb hz; replace C2 := bk2 hz) | (go_at_call 52; refine (hErr.out _ hbw).mono ?_; rintro e w8 ⟨rfl, hb⟩; have hbw := via hbw hb; replace B0 := bk_keep hb B0; replace B1 := bk_keep hb B1; replace C0 := bk4 B0; replace C1 := bk2 B1; replace hz := bk_keep hb hz; replace C2 := bk2 hz))
        refine region_all w (by kernel_rfl) (by kernel_rfl) (by go_grown) ?_
        intro hgc hbx
        repeat (go_big_quiet_step (first | (go_at_call 53; exact Grew.call (hctr.out _ (hbx.out _))) | (go_at_call 54; exact Grew.call (hgn.out _ (hbx.out _)))))
        refine wpQuiet_nil ?_
        intro w9 hb hbw9 hsw
        clear hgc hbx
        replace hz := bk_keep hb hz
        replace C2 := bk2 hz
        go_wp2
        refine bodyPost_ret (v := .bool true) ?_ rfl ⟨rfl, hbw9⟩
        simp [results, Try.results13, go_sem]
end Go.Proofs
