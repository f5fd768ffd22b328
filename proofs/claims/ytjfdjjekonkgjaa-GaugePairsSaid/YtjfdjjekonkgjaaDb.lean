import Derived.Test.YtjfdjjekonkgjaaQ
import Derived.Test.YtjfdjjekonkgjaaRb2
import Derived.Test.YtjfdjjekonkgjaaR
set_option linter.unusedSimpArgs false
set_option linter.unusedVariables false
namespace Go.Proofs
open Go.RowKit

set_option maxRecDepth 100000 in
set_option maxHeartbeats 2000000 in
theorem refContradict_any (l0 l1 : Int) (A A2 : Option Addr) (rs : List Rd) (ms : List Mv) (c c2 : Nat) (i j : Nat) (x y : Rd) (w : World) (hok : Right l0 l1 rs ms)
    (hx : rs[i]? = some x) (hy : rs[j]? = some y) (hat : At 4 Rd.cs w A rs) (hat2 : At 4 Mv.cs w A2 ms) :
    Calls Try.prog 53 #[.agg #[.int .i64 l0, .int .i64 l1, .slice A rs.length c, .slice A2 ms.length c2], .int .i64 i, .int .i64 j] w fun e w' =>
      e = .returned (.bool (contra l0 l1 ms x y)) ∧ Below w.heap.size w w' := by
  have hxr := hok.rd x (List.mem_of_getElem? hx)
  have hyr := hok.rd y (List.mem_of_getElem? hy)
  obtain ⟨b, o, rfl, hb, hcx, hcy⟩ := hat.two hx hy
  have hil : i < rs.length := (List.getElem?_eq_some_iff.1 hx).1
  have hjl : j < rs.length := (List.getElem?_eq_some_iff.1 hy).1
  have hrn := hok.rn
  have hA := fun W hW => refAllowed_any l0 l1 (.slice (some ⟨b, o, none⟩) rs.length c) A2 ms c2 x y.d W hok.mn hok.mv (At.below hat2 hW) hok.l0.1 hok.l0.2 hok.l1.1 hok.l1.2 hyr.1 hyr.2.1 ⟨hxr.1, hxr.2.1⟩ ⟨hxr.2.2.1, hxr.2.2.2.1⟩ ⟨hxr.2.2.2.2.1, hxr.2.2.2.2.2⟩
  unfold contra eqS
  generalize allowsLo l0 l1 ms x y.d = a1 at *
  generalize allowsHi l0 l1 ms x y.d = a2 at *
  obtain ⟨xc, xd, xlo, xhi⟩ := x
  obtain ⟨yc, yd, ylo, yhi⟩ := y
  have x0 := hcx 0 _ rfl
  have x1 := hcx 1 _ rfl
  have x2 := hcx 2 _ rfl
  have x3 := hcx 3 _ rfl
  have y0 := hcy 0 _ rfl
  have y1 := hcy 1 _ rfl
  have y2 := hcy 2 _ rfl
  have y3 := hcy 3 _ rfl
  dsimp only at x0 x1 x2 x3 y0 y1 y2 y3 hA hxr hyr
  simp only [Nat.add_zero] at x0 y0
  generalize rs.length = n at *
  obtain ⟨g1, g2, g3, g4, g5, g6⟩ := hyr
  have hA' := Lib.hid hA
  clear hA hcx hcy hx hy hat hat2 hok hxr
  obtain ⟨q, hq⟩ : ∃ q, (xc.toList == yc.toList) = q := ⟨_, rfl⟩
  rw [hq]
  go_enter Try.func53, Try.ntmps53
  go_wp2_with fail
  obtain ⟨W0, hW0⟩ : ∃ W0, w.alloc (.cells #[.int .i64 l0, .int .i64 l1, .slice (some ⟨b, o, none⟩) n c, .slice A2 ms.length c2] 49) = W0 := ⟨_, rfl⟩
  have k0 : W0.cell? ⟨w.heap.size, 2, none⟩ = some (.slice (some ⟨b, o, none⟩) n c) := by rw [← hW0]; simp
  have k1 : W0.cell? ⟨w.heap.size, 0, none⟩ = some (.int .i64 l0) := by rw [← hW0]; simp
  have k2 : W0.cell? ⟨w.heap.size, 1, none⟩ = some (.int .i64 l1) := by rw [← hW0]; simp
  have k3 : W0.cell? ⟨w.heap.size, 3, none⟩ = some (.slice A2 ms.length c2) := by rw [← hW0]; simp
  have hs0 : w.heap.size < W0.heap.size := by rw [← hW0]; simp
  have hbb : b < W0.heap.size := by omega
  have hw0 : Below w.heap.size w W0 := by rw [← hW0]; go_grown
  have z0 := (hw0.cell (p := ⟨b, o + i * 4, none⟩) hb).trans x0
  have z1 := (hw0.cell (p := ⟨b, o + i * 4 + 1, none⟩) hb).trans x1
  have z2 := (hw0.cell (p := ⟨b, o + i * 4 + 2, none⟩) hb).trans x2
  have z3 := (hw0.cell (p := ⟨b, o + i * 4 + 3, none⟩) hb).trans x3
  have u0 := (hw0.cell (p := ⟨b, o + j * 4, none⟩) hb).trans y0
  have u1 := (hw0.cell (p := ⟨b, o + j * 4 + 1, none⟩) hb).trans y1
  have u2 := (hw0.cell (p := ⟨b, o + j * 4 + 2, none⟩) hb).trans y2
  have u3 := (hw0.cell (p := ⟨b, o + j * 4 + 3, none⟩) hb).trans y3
  rw [hW0]
  clear x0 x1 x2 x3 y0 y1 y2 y3 hW0
  have hi3 : (i : Int) < (n : Int) := by omega
  have hj3 : (j : Int) < (n : Int) := by omega
  have h1 : w.heap.size < W0.heap.size + 1 := by omega
  have h2 : w.heap.size < W0.heap.size + 1 + 1 := by omega
  have hcase : q = false ∨ (q = true ∧ a2 < 1000 * ylo) ∨ (q = true ∧ 1000 * ylo ≤ a2 ∧ 1000 * yhi < a1) ∨ (q = true ∧ 1000 * ylo ≤ a2 ∧ a1 ≤ 1000 * yhi) := by
    cases q
    · exact .inl rfl
    · simp; omega
  go_region
  all_goals
    rcases hcase with rfl | ⟨rfl, hp⟩ | ⟨rfl, hp2, hp⟩ | ⟨rfl, hp2, hp⟩
    all_goals
      go_wp2_with (go_at_call 107; refine (hA'.out _ ?_).mono ?_; (· go_grown); rintro e w1 ⟨rfl, hb1⟩; have hcc := gcell hb1; have hff := gfrozen hb1; have hsz := hb1.size; simp only [World.size_alloc, World.size_drew] at hsz; have e0 : w.heap.size < w1.heap.size := (by omega); have e1 : W0.heap.size < w1.heap.size := (by omega); have e2 : W0.heap.size + 1 < w1.heap.size := (by omega); have hbw := via (by go_grown : Below w.heap.size w _) hb1)
      go_ret
      refine ⟨ret_bool ?_, by go_grown⟩
      first
        | rfl
        | (simp only [Bool.true_and, Bool.false_and, decide_eq_true hp, Bool.true_or, Bool.or_true]; done)
        | (rw [decide_eq_false (by omega : ¬ a2 < 1000 * ylo)]; simp; done)
        | (simp; omega)
end Go.Proofs

namespace Go.Proofs
open Go.RowKit

set_option maxRecDepth 100000 in
set_option maxHeartbeats 2000000 in
theorem refPairs_any (l0 l1 : Int) (A A2 : Option Addr) (rs : List Rd) (ms : List Mv) (c c2 : Nat) (w : World) (hok : Right l0 l1 rs ms) (hat : At 4 Rd.cs w A rs) (hat2 : At 4 Mv.cs w A2 ms) :
    Calls Try.prog 51 #[.agg #[.int .i64 l0, .int .i64 l1, .slice A rs.length c, .slice A2 ms.length c2]] w fun e w' =>
      (∃ A3 cap, e = .returned (.slice A3 (allPairs l0 l1 rs ms).length cap) ∧ At 2 Pc w' A3 (allPairs l0 l1 rs ms)) ∧ Below w.heap.size w w' := by
  have hC := fun i j x y W hx hy hW => refContradict_any l0 l1 A A2 rs ms c c2 i j x y W hok hx hy (At.below hat hW) (At.below hat2 hW)
  have hCC : ∀ i j x y, rs[i]? = some x → rs[j]? = some y → contra l0 l1 ms x y = contraAt l0 l1 rs ms i j := fun i j x y hx hy => by unfold contraAt; rw [hx, hy]
  have hrn := hok.rn
  unfold allPairs
  generalize contraAt l0 l1 rs ms = C at *
  have hC2 : ∀ i j W, i < rs.length → j < rs.length → Below w.heap.size w W → Calls Try.prog 53 #[.agg #[.int .i64 l0, .int .i64 l1, .slice A rs.length c, .slice A2 ms.length c2], .int .i64 i, .int .i64 j] W fun e w' =>
      e = .returned (.bool (C i j)) ∧ Below W.heap.size W w' := fun i j W hi hj hW => by
    have := hC i j _ _ W (List.getElem?_eq_getElem hi) (List.getElem?_eq_getElem hj) hW
    rwa [hCC i j _ _ (List.getElem?_eq_getElem hi) (List.getElem?_eq_getElem hj)] at this
  have hC' := Lib.hid hC2
  generalize rs.length = n at *
  generalize ms.length = m at *
  clear hC hCC hC2 hok hat hat2
  obtain ⟨i0, hi, hz0, hz1, hz2⟩ := info_parts info42
  go_enter Try.func51, Try.ntmps51
  go_wp2
  go_loopw [3, 4] (fun v i wr => ∃ k : Nat, k ≤ n ∧ i = .int .i64 k ∧ wr.ownsRow (w.heap.size + 1) 42 2 v (pout C n k).length ((pout C n k).flatMap Pc) ∧ Below (w.heap.size + 1) (w.alloc (.cells #[.int .i64 l0, .int .i64 l1, .slice A n c, .slice A2 m c2] 49)) wr) (fun _ i _ => n - (intOf i).toNat)
  case atStart => exact ⟨0, Nat.zero_le _, rfl, World.ownsRow_nil _ _ _ _, Below.refl _ _⟩
  case round =>
    obtain ⟨k, hk, rfl, hown, hb⟩ := hrel
    have hbw : Below w.heap.size w wr := (new_below _ _).trans (hb.mono (by omega))
    have hcc := fun o => hb.cell (p := ⟨w.heap.size, o, none⟩) (by simp)
    have hz0 : w.heap.size < wr.heap.size := by have := hb.size; simp at this; omega
    by_cases hlt : k < n
    · obtain ⟨wo, rfl⟩ : ∃ wo : World, wo = wr := ⟨_, rfl⟩
      have hol := pout_len C n k
      have hkn : n * k ≤ 40 * 40 := Nat.mul_le_mul hrn (by omega)
      have hbw' := hbw.size
      go_wp2
      go_loopw [3, 5] (fun v i wr => ∃ j : Nat, k + 1 ≤ j ∧ j ≤ n ∧ i = .int .i64 j ∧ wr.ownsRow (w.heap.size + 1) 42 2 v (pout C n k ++ pin C k j).length ((pout C n k ++ pin C k j).flatMap Pc) ∧ Below (w.heap.size + 1) (w.alloc (.cells #[.int .i64 l0, .int .i64 l1, .slice A n c, .slice A2 m c2] 49)) wr) (fun _ i _ => n - (intOf i).toNat)
      case atStart => exact ⟨k + 1, Nat.le_refl _, by omega, by go_num, by rw [pin_start, List.append_nil]; exact hown, hb⟩
      case round =>
        obtain ⟨j, hkj, hj, rfl, hown1, hb1⟩ := hrel
        clear hown hb hbw hbw' hcc hz0
        have hbw1 : Below w.heap.size w wr := (new_below _ _).trans (hb1.mono (by omega))
        have hbw' := hbw1.size
        have hb1s : w.heap.size + 1 ≤ wr.heap.size := by have := hb1.size; simpa using this
        have hcc := fun o => hb1.cell (p := ⟨w.heap.size, o, none⟩) (by simp)
        by_cases hjn : j < n
        · cases hcb : C k j
          · have hc1 := hC'.out k j wr hlt hjn hbw1
            rw [hcb] at hc1
            have hc1' := Lib.hid hc1
            have hcb' := Lib.hid hcb
            have hown' := Lib.hid hown1
            clear hc1 hcb hown1
            go_wp2_with (go_at_call 53; refine hc1'.out.mono ?_; rintro e w2 ⟨rfl, hb2⟩)
            go_roundw
            case rel => exact ⟨j + 1, by omega, by omega, by go_num, by rw [pin_no C k j hcb'.out]; exact owns_below hown'.out hb2, hb1.trans (hb2.mono hb1s)⟩
            case measure => simp [intOf]; omega
          · have hc1 := hC'.out k j wr hlt hjn hbw1
            rw [hcb] at hc1
            have hc1' := Lib.hid hc1
            have hcb' := Lib.hid hcb
            have hown' := Lib.hid hown1
            have hlen := @List.length_append _ (pout C n k) (pin C k j)
            have hpl := pin_len C k j
            clear hc1 hcb hown1
            go_wp2_with (first
              | (at_builtin; refine wpList_append_own _ rfl _ _ 69 rfl (w.heap.size + 1) 42 i0 (.agg #[.int .i64 0, .int .i64 0]) 2 16 Try.underlying69 hi hz0 hz1 hz2 rfl (by decide) _ _ _ rfl (hown2.out.alloc _) ⟨w2.heap.size, 0, none⟩ 1 1 [.int .i64 (k : Int), .int .i64 (j : Int)] rfl rfl ?c1 ?c2 ?c3 ?c4 ?c5 ?_)
              | (go_at_call 53; refine hc1'.out.mono ?_; rintro e w2 ⟨rfl, hb2⟩; have hown2 := Lib.hid (owns_below hown'.out hb2); have hs2 := hb2.size))
            case c1 => exact cell_two_new _ _ _ _
            case c2 => intro u hu; simp at hu; rcases hu with rfl | rfl <;> rfl
            case c3 => unfold maxLen; omega
            case c4 => omega
            case c5 => simp; omega
            intro v' w3 hown3 hg3 _
            have hlt3 := hown2.out.lt
            have hbel : Below (w.heap.size + 1) (w.alloc (.cells #[.int .i64 l0, .int .i64 l1, .slice A n c, .slice A2 m c2] 49)) w3 :=
              ((hb1.trans (hb2.mono hb1s)).alloc (by omega) _).grown hg3 (by simp; omega) (fun r e => (hlt3 r e).1)
            have hown4 : w3.ownsRow (w.heap.size + 1) 42 2 v' (pout C n k ++ pin C k (j + 1)).length ((pout C n k ++ pin C k (j + 1)).flatMap Pc) := by
              rw [pin_yes C k j (by omega) hcb'.out]
              simpa [List.flatMap_append, Pc, Nat.add_assoc] using hown3
            have hown5 := Lib.hid hown4
            clear hown3 hown4 hg3 hlt3
            go_wp2
            go_roundw
            case rel => exact ⟨j + 1, by omega, by omega, by go_num, hown5.out, hbel⟩
            case measure => simp [intOf]; omega
        · have hjj : j = n := by omega
          subst hjj
          have hown' := Lib.hid hown1
          clear hown1
          go_wp2
          go_roundw
          case rel => exact ⟨k + 1, by omega, by go_num, by rw [pout_succ]; exact hown'.out, hb1⟩
          case measure => simp [intOf]; omega
    · have hkk : k = n := by omega
      subst hkk
      obtain ⟨A3, cap, rfl, hat3⟩ := at_of_owns (cs := Pc) (sz := 2) (fun _ => rfl) hown
      have hat3' := Lib.hid hat3
      clear hat3 hown
      go_wp2
      go_ret
      exact ⟨⟨A3, cap, rfl, hat3'.out⟩, hbw⟩
end Go.Proofs
