import Derived.Test.YtmnjoamkaapjcaaGreatMg11
import Derived.Test.YtmnjoamkaapjcaaGreatMg33
import Derived.Test.YtmnjoamkaapjcaaGreatMg6
import Derived.Test.YtmnjoamkaapjcaaGreatMg7
import Derived.Test.YtmnjoamkaapjcaaGreatMg34
import Derived.ChangeKeysEq
import Derived.Laws.StructEq
import Derived.Test.YtmnjoamkaapjcaaGreatMg25
import Derived.Test.YtmnjoamkaapjcaaGreatMg23
import Derived.Test.YtmnjoamkaapjcaaGreatMg31
set_option linter.unusedSimpArgs false
set_option linter.unusedVariables false
namespace Go.Proofs
open Go.RowKit
end Go.Proofs

namespace Go.Proofs
open Go.RowKit

set_option maxRecDepth 100000 in
set_option maxHeartbeats 2000000 in
theorem refContradict_any (l0 l1 : Int) (A A2 : Option Addr) (rs : List Rd) (ms : List Mv) (c c2 : Nat) (i j : Nat) (x y : Rd) (w : World) (hok : Right l0 l1 rs ms)
    (hx : rs[i]? = some x) (hy : rs[j]? = some y) (hat : At 4 Rd.cs w A rs) (hat2 : At 4 Mv.cs w A2 ms) :
    Calls Tryz.prog 41 #[.agg #[.int .i64 l0, .int .i64 l1, .slice A rs.length c, .slice A2 ms.length c2], .int .i64 i, .int .i64 j] w fun e w' =>
      e = .returned (.bool (contra l0 l1 ms x y)) ∧ Below w.heap.size w w' := by
  have hxr := hok.rd x (List.mem_of_getElem? hx)
  have hyr := hok.rd y (List.mem_of_getElem? hy)
  obtain ⟨b, o, rfl, hb, hcx, hcy⟩ := hat.two hx hy
  have hil : i < rs.length := (List.getElem?_eq_some_iff.1 hx).1
  have hjl : j < rs.length := (List.getElem?_eq_some_iff.1 hy).1
  have hrn := hok.rn
  have hA := fun W hW => refAllowed_any l0 l1 (.slice (some ⟨b, o, none⟩) rs.length c) A2 ms c2 x y.d W hok.mn hok.mv (At.below hat2 hW) hok.l0.1 hok.l0.2 hok.l1.1 hok.l1.2 hyr.1 hyr.2.1 ⟨hxr.1, hxr.2.1⟩ ⟨hxr.2.2.1, hxr.2.2.2.1⟩ ⟨hxr.2.2.2.2.1, hxr.2.2.2.2.2⟩
  unfold contra eqS
  generalize allowsLo l0 l1 ms x y.d = a1 at *
  generalize allowsHi l0 l1 ms x y.d = a2 at *
  obtain ⟨xc, xd, xlo, xhi⟩ := x
  obtain ⟨yc, yd, ylo, yhi⟩ := y
  have x0 := hcx 0 _ rfl
  have x1 := hcx 1 _ rfl
  have x2 := hcx 2 _ rfl
  have x3 := hcx 3 _ rfl
  have y0 := hcy 0 _ rfl
  have y1 := hcy 1 _ rfl
  have y2 := hcy 2 _ rfl
  have y3 := hcy 3 _ rfl
  dsimp only at x0 x1 x2 x3 y0 y1 y2 y3 hA hxr hyr
  simp only [Nat.add_zero] at x0 y0
  generalize rs.length = n at *
  obtain ⟨g1, g2, g3, g4, g5, g6⟩ := hyr
  have hA' := Lib.hid hA
  clear hA hcx hcy hx hy hat hat2 hok hxr
  obtain ⟨q, hq⟩ : ∃ q, (xc.toList == yc.toList) = q := ⟨_, rfl⟩
  rw [hq]
  go_enter Tryz.func41, Tryz.ntmps41
  go_wp2_with fail
  obtain ⟨W0, hW0⟩ : ∃ W0, w.alloc (.cells #[.int .i64 l0, .int .i64 l1, .slice (some ⟨b, o, none⟩) n c, .slice A2 ms.length c2] 27) = W0 := ⟨_, rfl⟩
  have k0 : W0.cell? ⟨w.heap.size, 2, none⟩ = some (.slice (some ⟨b, o, none⟩) n c) := by rw [← hW0]; simp
  have k1 : W0.cell? ⟨w.heap.size, 0, none⟩ = some (.int .i64 l0) := by rw [← hW0]; simp
  have k2 : W0.cell? ⟨w.heap.size, 1, none⟩ = some (.int .i64 l1) := by rw [← hW0]; simp
  have k3 : W0.cell? ⟨w.heap.size, 3, none⟩ = some (.slice A2 ms.length c2) := by rw [← hW0]; simp
  have hs0 : w.heap.size < W0.heap.size := by rw [← hW0]; simp
  have hbb : b < W0.heap.size := by omega
  have hw0 : Below w.heap.size w W0 := by rw [← hW0]; go_grown
  have z0 := (hw0.cell (p := ⟨b, o + i * 4, none⟩) hb).trans x0
  have z1 := (hw0.cell (p := ⟨b, o + i * 4 + 1, none⟩) hb).trans x1
  have z2 := (hw0.cell (p := ⟨b, o + i * 4 + 2, none⟩) hb).trans x2
  have z3 := (hw0.cell (p := ⟨b, o + i * 4 + 3, none⟩) hb).trans x3
  have u0 := (hw0.cell (p := ⟨b, o + j * 4, none⟩) hb).trans y0
  have u1 := (hw0.cell (p := ⟨b, o + j * 4 + 1, none⟩) hb).trans y1
  have u2 := (hw0.cell (p := ⟨b, o + j * 4 + 2, none⟩) hb).trans y2
  have u3 := (hw0.cell (p := ⟨b, o + j * 4 + 3, none⟩) hb).trans y3
  rw [hW0]
  clear x0 x1 x2 x3 y0 y1 y2 y3 hW0
  have hi3 : (i : Int) < (n : Int) := by omega
  have hj3 : (j : Int) < (n : Int) := by omega
  have h1 : w.heap.size < W0.heap.size + 1 := by omega
  have h2 : w.heap.size < W0.heap.size + 1 + 1 := by omega
  have hcase : q = false ∨ (q = true ∧ a2 < 1000 * ylo) ∨ (q = true ∧ 1000 * ylo ≤ a2 ∧ 1000 * yhi < a1) ∨ (q = true ∧ 1000 * ylo ≤ a2 ∧ a1 ≤ 1000 * yhi) := by
    cases q
    · exact .inl rfl
    · simp; omega
  go_region
  all_goals
    rcases hcase with rfl | ⟨rfl, hp⟩ | ⟨rfl, hp2, hp⟩ | ⟨rfl, hp2, hp⟩
    all_goals
      go_wp2_with (go_at_call 65; refine (hA'.out _ ?_).mono ?_; (· go_grown); rintro e w1 ⟨rfl, hb1⟩; have hcc := gcell hb1; have hff := gfrozen hb1; have hsz := hb1.size; simp only [World.size_alloc, World.size_drew] at hsz; have e0 : w.heap.size < w1.heap.size := (by omega); have e1 : W0.heap.size < w1.heap.size := (by omega); have e2 : W0.heap.size + 1 < w1.heap.size := (by omega); have hbw := via (by go_grown : Below w.heap.size w _) hb1)
      go_ret
      refine ⟨ret_bool ?_, by go_grown⟩
      first
        | rfl
        | (simp only [Bool.true_and, Bool.false_and, decide_eq_true hp, Bool.true_or, Bool.or_true]; done)
        | (rw [decide_eq_false (by omega : ¬ a2 < 1000 * ylo)]; simp; done)
        | (simp; omega)
end Go.Proofs

namespace Go.Proofs
open Go.RowKit

set_option maxRecDepth 100000 in
set_option maxHeartbeats 2000000 in
theorem refPairs_any (l0 l1 : Int) (A A2 : Option Addr) (rs : List Rd) (ms : List Mv) (c c2 : Nat) (w : World) (hok : Right l0 l1 rs ms) (hat : At 4 Rd.cs w A rs) (hat2 : At 4 Mv.cs w A2 ms) :
    Calls Tryz.prog 17 #[.agg #[.int .i64 l0, .int .i64 l1, .slice A rs.length c, .slice A2 ms.length c2]] w fun e w' =>
      (∃ A3 cap, e = .returned (.slice A3 (allPairs l0 l1 rs ms).length cap) ∧ At 2 Pc w' A3 (allPairs l0 l1 rs ms)) ∧ Below w.heap.size w w' := by
  have hC := fun i j x y W hx hy hW => refContradict_any l0 l1 A A2 rs ms c c2 i j x y W hok hx hy (At.below hat hW) (At.below hat2 hW)
  have hCC : ∀ i j x y, rs[i]? = some x → rs[j]? = some y → contra l0 l1 ms x y = contraAt l0 l1 rs ms i j := fun i j x y hx hy => by unfold contraAt; rw [hx, hy]
  have hrn := hok.rn
  unfold allPairs
  generalize contraAt l0 l1 rs ms = C at *
  have hC2 : ∀ i j W, i < rs.length → j < rs.length → Below w.heap.size w W → Calls Tryz.prog 41 #[.agg #[.int .i64 l0, .int .i64 l1, .slice A rs.length c, .slice A2 ms.length c2], .int .i64 i, .int .i64 j] W fun e w' =>
      e = .returned (.bool (C i j)) ∧ Below W.heap.size W w' := fun i j W hi hj hW => by
    have := hC i j _ _ W (List.getElem?_eq_getElem hi) (List.getElem?_eq_getElem hj) hW
    rwa [hCC i j _ _ (List.getElem?_eq_getElem hi) (List.getElem?_eq_getElem hj)] at this
  have hC' := Lib.hid hC2
  generalize rs.length = n at *
  generalize ms.length = m at *
  clear hC hCC hC2 hok hat hat2
  obtain ⟨i0, hi, hz0, hz1, hz2⟩ := info_parts info42
  go_enter Tryz.func17, Tryz.ntmps17
  go_wp2
  go_loopw [3, 4] (fun v i wr => ∃ k : Nat, k ≤ n ∧ i = .int .i64 k ∧ wr.ownsRow (w.heap.size + 1) 55 2 v (pout C n k).length ((pout C n k).flatMap Pc) ∧ Below (w.heap.size + 1) (w.alloc (.cells #[.int .i64 l0, .int .i64 l1, .slice A n c, .slice A2 m c2] 27)) wr) (fun _ i _ => n - (intOf i).toNat)
  case atStart => exact ⟨0, Nat.zero_le _, rfl, World.ownsRow_nil _ _ _ _, Below.refl _ _⟩
  case round =>
    obtain ⟨k, hk, rfl, hown, hb⟩ := hrel
    have hbw : Below w.heap.size w wr := (new_below _ _).trans (hb.mono (by omega))
    have hcc := fun o => hb.cell (p := ⟨w.heap.size, o, none⟩) (by simp)
    have hz0 : w.heap.size < wr.heap.size := by have := hb.size; simp at this; omega
    by_cases hlt : k < n
    · obtain ⟨wo, rfl⟩ : ∃ wo : World, wo = wr := ⟨_, rfl⟩
      have hol := pout_len C n k
      have hkn : n * k ≤ 40 * 40 := Nat.mul_le_mul hrn (by omega)
      have hbw' := hbw.size
      go_wp2
      go_loopw [3, 5] (fun v i wr => ∃ j : Nat, k + 1 ≤ j ∧ j ≤ n ∧ i = .int .i64 j ∧ wr.ownsRow (w.heap.size + 1) 55 2 v (pout C n k ++ pin C k j).length ((pout C n k ++ pin C k j).flatMap Pc) ∧ Below (w.heap.size + 1) (w.alloc (.cells #[.int .i64 l0, .int .i64 l1, .slice A n c, .slice A2 m c2] 27)) wr) (fun _ i _ => n - (intOf i).toNat)
      case atStart => exact ⟨k + 1, Nat.le_refl _, by omega, by go_num, by rw [pin_start, List.append_nil]; exact hown, hb⟩
      case round =>
        obtain ⟨j, hkj, hj, rfl, hown1, hb1⟩ := hrel
        clear hown hb hbw hbw' hcc hz0
        have hbw1 : Below w.heap.size w wr := (new_below _ _).trans (hb1.mono (by omega))
        have hbw' := hbw1.size
        have hb1s : w.heap.size + 1 ≤ wr.heap.size := by have := hb1.size; simpa using this
        have hcc := fun o => hb1.cell (p := ⟨w.heap.size, o, none⟩) (by simp)
        by_cases hjn : j < n
        · cases hcb : C k j
          · have hc1 := hC'.out k j wr hlt hjn hbw1
            rw [hcb] at hc1
            have hc1' := Lib.hid hc1
            have hcb' := Lib.hid hcb
            have hown' := Lib.hid hown1
            clear hc1 hcb hown1
            go_wp2_with (go_at_call 41; refine hc1'.out.mono ?_; rintro e w2 ⟨rfl, hb2⟩)
            go_roundw
            case rel => exact ⟨j + 1, by omega, by omega, by go_num, by rw [pin_no C k j hcb'.out]; exact owns_below hown'.out hb2, hb1.trans (hb2.mono hb1s)⟩
            case measure => simp [intOf]; omega
          · have hc1 := hC'.out k j wr hlt hjn hbw1
            rw [hcb] at hc1
            have hc1' := Lib.hid hc1
            have hcb' := Lib.hid hcb
            have hown' := Lib.hid hown1
            have hlen := @List.length_append _ (pout C n k) (pin C k j)
            have hpl := pin_len C k j
            clear hc1 hcb hown1
            go_wp2_with (first
              | (at_builtin; refine wpList_append_own _ rfl _ _ 46 rfl (w.heap.size + 1) 55 i0 (.agg #[.int .i64 0, .int .i64 0]) 2 16 Tryz.underlying46 hi hz0 hz1 hz2 rfl (by decide) _ _ _ rfl (hown2.out.alloc _) ⟨w2.heap.size, 0, none⟩ 1 1 [.int .i64 (k : Int), .int .i64 (j : Int)] rfl rfl ?c1 ?c2 ?c3 ?c4 ?c5 ?_)
              | (go_at_call 41; refine hc1'.out.mono ?_; rintro e w2 ⟨rfl, hb2⟩; have hown2 := Lib.hid (owns_below hown'.out hb2); have hs2 := hb2.size))
            case c1 => exact cell_two_new _ _ _ _
            case c2 => intro u hu; simp at hu; rcases hu with rfl | rfl <;> rfl
            case c3 => unfold maxLen; omega
            case c4 => omega
            case c5 => simp; omega
            intro v' w3 hown3 hg3 _
            have hlt3 := hown2.out.lt
            have hbel : Below (w.heap.size + 1) (w.alloc (.cells #[.int .i64 l0, .int .i64 l1, .slice A n c, .slice A2 m c2] 27)) w3 :=
              ((hb1.trans (hb2.mono hb1s)).alloc (by omega) _).grown hg3 (by simp; omega) (fun r e => (hlt3 r e).1)
            have hown4 : w3.ownsRow (w.heap.size + 1) 55 2 v' (pout C n k ++ pin C k (j + 1)).length ((pout C n k ++ pin C k (j + 1)).flatMap Pc) := by
              rw [pin_yes C k j (by omega) hcb'.out]
              simpa [List.flatMap_append, Pc, Nat.add_assoc] using hown3
            have hown5 := Lib.hid hown4
            clear hown3 hown4 hg3 hlt3
            go_wp2
            go_roundw
            case rel => exact ⟨j + 1, by omega, by omega, by go_num, hown5.out, hbel⟩
            case measure => simp [intOf]; omega
        · have hjj : j = n := by omega
          subst hjj
          have hown' := Lib.hid hown1
          clear hown1
          go_wp2
          go_roundw
          case rel => exact ⟨k + 1, by omega, by go_num, by rw [pout_succ]; exact hown'.out, hb1⟩
          case measure => simp [intOf]; omega
    · have hkk : k = n := by omega
      subst hkk
      obtain ⟨A3, cap, rfl, hat3⟩ := at_of_owns (cs := Pc) (sz := 2) (fun _ => rfl) hown
      have hat3' := Lib.hid hat3
      clear hat3 hown
      go_wp2
      go_ret
      exact ⟨⟨A3, cap, rfl, hat3'.out⟩, hbw⟩
end Go.Proofs

namespace Go.Proofs
open Go.RowKit
end Go.Proofs

namespace Go.Proofs
open Go.RowKit
theorem neq42 (a b : Int) (W : World) : Sem.run Tryz.prog (binOp .neq 55 (.agg #[.int .i64 a, .int .i64 b]) (.agg #[.int .i64 a, .int .i64 b])) W = .ok (.bool false) W := by
  rw [run_neq_struct]
  have hi : Tryz.prog.info? 3 ≠ none := by
    intro h
    have : (Tryz.prog.info? 3).isSome = true := by kernel_rfl
    rw [h] at this
    cases this
  obtain ⟨i, hi⟩ := Option.ne_none_iff_exists'.1 hi
  have hc : Tryz.prog.cellsOf 3 = 1 := by kernel_rfl
  have hp0 : ∀ W, (Go.part 3 #[.int .i64 a, .int .i64 b] 0).run Tryz.prog W = .ok (.int .i64 a) W := fun _ => by kernel_rfl
  have hp1 : ∀ W, (Go.part 3 #[.int .i64 a, .int .i64 b] 1).run Tryz.prog W = .ok (.int .i64 b) W := fun _ => by kernel_rfl
  have he : ∀ (x : Int) W, (Op.equalIn 9999 3 (.int .i64 x) (.int .i64 x)).run Tryz.prog W = .ok true W := fun x W => by
    rw [show (9999 : Nat) = 9998 + 1 from rfl, run_equalIn_int W 9998 3 .i64 .i64 x x Tryz.underlying3]
    simp
  rw [show (10000 : Nat) = 9999 + 1 from rfl, run_equalIn_array _ _ _ _ Tryz.underlying55 hi, hc]
  simp only [List.range, List.range.loop, Op.eqItems, Sem.run_bind, Nat.zero_mul, Nat.one_mul, hp0, hp1, he, Result.andThen_ok]
  simp [hp0, hp1, he]
end Go.Proofs

namespace Go.Proofs
open Go.RowKit

theorem contra_one {l0 l1 : Int} {ms : List Mv} {x y : Rd} (h : contra l0 l1 ms x y = true) : 0 ≤ (goneP l0 l1 ms x y).1 ∨ (goneP l0 l1 ms x y).2 ≤ 0 := by
  unfold contra at h
  simp only [Bool.and_eq_true, Bool.or_eq_true, decide_eq_true_eq] at h
  unfold goneP rngV
  dsimp only
  omega
theorem bookV_stable (l0 l1 : Int) (rs : List Rd) (ms : List Mv) : ∀ V x x', BookV l0 l1 rs ms V x → Below x.heap.size x x' → BookV l0 l1 rs ms V x' := fun _ _ _ h hb => h.below hb

end Go.Proofs

set_option linter.unusedSimpArgs false
set_option linter.unusedVariables false
namespace Go.Proofs
open Go.RowKit

theorem no_str {α : Type} {sz : Nat} {cs : α → List Value} {x : World} {A : Option Addr} {l : List α} {b : Nat} {i j : Int} {A1 A2 : Option Addr} {n1 n2 c1 c2 : Nat} {ty : TypeId} (hs : ∀ y, ∃ (k : Nat) (s : ByteArray), (cs y)[k]? = some (.string s)) (hat : At sz cs x A l)
    (hb : x.heap[b]? = some (.cells #[.int .i64 i, .int .i64 j, .slice A1 n1 c1, .slice A2 n2 c2] ty (0, 0))) : 0 < l.length → ∀ p, A = some p → p.block ≠ b := by
  rintro hpos p rfl e
  obtain ⟨y, hy⟩ : ∃ y, l[0]? = some y := ⟨_, List.getElem?_eq_getElem hpos⟩
  obtain ⟨b', o, hA, -, hc⟩ := hat 0 y hy
  injection hA with hA
  subst hA
  dsimp only at e
  subst e
  obtain ⟨k, s, hk⟩ := hs y
  have h1 := hc k _ hk
  rw [bk_cell hb] at h1
  generalize o + 0 * sz + k = q at h1
  match q, h1 with
  | 0, h1 => simp at h1
  | 1, h1 => simp at h1
  | 2, h1 => simp at h1
  | 3, h1 => simp at h1
  | q + 4, h1 =>
    rw [Array.getElem?_eq_none (by simp)] at h1
    cases h1
theorem str_rd : ∀ y : Rd, ∃ (k : Nat) (s : ByteArray), (Rd.cs y)[k]? = some (.string s) := fun y => ⟨0, y.c, rfl⟩
theorem str_mv : ∀ y : Mv, ∃ (k : Nat) (s : ByteArray), (Mv.cs y)[k]? = some (.string s) := fun y => ⟨1, y.f, rfl⟩
def WoGot (l0 l1 : Int) (rs : List Rd) (ms : List Mv) (l : List Int) (E : Int) (e : Ending) (w' : World) : Prop :=
  (E ≠ 0 ∧ e = .returned (.tuple #[.agg #[.int .i64 0, .int .i64 0, .slice none 0 0, .slice none 0 0], .int .i64 E])) ∨
  (E = 0 ∧ ∃ A c A2 c2, e = .returned (.tuple #[.agg #[.int .i64 l0, .int .i64 l1, .slice A (wo rs l).length c, .slice A2 ms.length c2], .int .i64 0]) ∧ At 4 Rd.cs w' A (wo rs l) ∧ At 4 Mv.cs w' A2 ms)
set_option maxRecDepth 100000 in
set_option maxHeartbeats 4000000 in
theorem gWithout_any (l0 l1 : Int) (A A2 : Option Addr) (rs : List Rd) (ms : List Mv) (c c2 : Nat) (B : Option Addr) (l : List Int) (cl : Nat) (w : World)
    (hs : ∀ x ∈ rs, x.c.size ≤ 9223372036854775807) (hs2 : ∀ x ∈ ms, x.f.size ≤ 9223372036854775807 ∧ x.t.size ≤ 9223372036854775807)
    (hn : rs.length ≤ 1000) (hm : ms.length ≤ 1000) (hl : l.length ≤ 1000) (hat : At 4 Rd.cs w A rs) (hat2 : At 4 Mv.cs w A2 ms) (hatl : At 1 Ic w B l) :
    Calls Tryz.prog 8 #[.agg #[.int .i64 l0, .int .i64 l1, .slice A rs.length c, .slice A2 ms.length c2], .slice B l.length cl] w fun e w' =>
      WoGot l0 l1 rs ms l (firstE [(checkB l0 l1 rs ms).2, lstE rs.length none l]) e w' ∧ Below w.heap.size w w' := by
  have hO := Lib.hid fun W hb => openBook_any l0 l1 A A2 rs ms c c2 W hs (hat.below hb) hs2 (hat2.below hb)
  have hNu := Lib.hid fun W (hb : Below w.heap.size w W) => numbersErr_any l0 l1 A A2 rs.length c ms.length c2 B l cl W hn hl (hatl.below hb)
  have hWo := Lib.hid fun W (hb : Below w.heap.size w W) => without_any l0 l1 A A2 rs ms c c2 B l cl W hn hm hl (hat.below hb) (hat2.below hb) (hatl.below hb)
  generalize (checkB l0 l1 rs ms).2 = E1 at *
  generalize lstE rs.length none l = E2 at *
  unfold CopyGot at hWo
  unfold WoGot
  generalize rs.length = n at *
  generalize wo rs l = rs' at *
  clear hs hs2 hn hl hm hat hat2 hatl
  have hfd : ∀ (a b x y : Value) (W : World), Sem.run Tryz.prog (Instr.field 66 (.agg #[a, b, x, y]) 0) W = .ok (.agg #[a, b, x, y]) W := fun _ _ _ _ _ => by kernel_rfl
  by_cases hz : firstE [E1, E2] = 0
  · have hz2 : (firstE [E1, E2] != 0) = false := by simp [hz]
    have hz' := Lib.hid hz
    clear hz
    go_enter Tryz.func8, Tryz.ntmps8
    go_wp2_with (first | (go_at_call 24; refine (hO.out _ ?_).mono ?_; (· go_grown); rintro e w1 ⟨rfl, hb⟩; have hbw := via (by go_grown : Below w.heap.size w _) hb; have hsw := hbw.size; have B0 : w1.heap[w.heap.size]? = some (.cells #[.int .i64 l0, .int .i64 l1, .slice A n c, .slice A2 ms.length c2] 27 (0, 0)) := bk_keep hb (by (repeat (first | assumption | (refine bk_new _ _ ?_; (simp; done)) | refine bk_drew ?_ | refine bk_alloc ?_ _ | refine bk_set ?_ (by simp <;> omega) _))); have B1 : w1.heap[w.heap.size + 1]? = some (.cells #[.int .i64 0, .int .i64 0, .slice none 0 0, .slice none 0 0] 27 (0, 0)) := bk_keep hb (by (repeat (first | assumption | (refine bk_new _ _ ?_; (simp; done)) | refine bk_drew ?_ | refine bk_alloc ?_ _ | refine bk_set ?_ (by simp <;> omega) _)))) | (go_at_call 34; refine (hNu.out _ ?_).mono ?_; (· go_grown); rintro e w2 ⟨rfl, hb2⟩; replace hbw := via (by go_grown : Below w.heap.size w _) hb2; replace hsw := hbw.size; have M0 := bk_keep hb2 (bk_keep (by go_grown : Below w1.heap.size w1 _) B0); have M1 := bk_keep hb2 (bk_keep (by go_grown : Below w1.heap.size w1 _) B1); have M2 : w2.heap[w1.heap.size]? = some (.cells #[.int .i64 l0, .int .i64 l1, .slice A n c, .slice A2 ms.length c2] 66 (0, 0)) := bk_keep hb2 (by (repeat (first | assumption | (refine bk_new _ _ ?_; (simp; done)) | refine bk_drew ?_ | refine bk_alloc ?_ _ | refine bk_set ?_ (by simp <;> omega) _))); have C0 := bk4 M0; have C1 := bk4 M1; have C2 := bk4 M2) | (go_at_call 33; refine (first2n _ _ _ (by rfl)).mono ?_; rintro e w' ⟨rfl, rfl⟩) | (go_at_call 35; refine (hWo.out _ ?_).mono ?_; (· go_grown); rintro e w3 ⟨⟨A3, c3, A4, c4, rfl, hat3, hat4⟩, hb3⟩; replace hbw := via (by go_grown : Below w.heap.size w _) hb3; have N1 := bk_keep hb3 (bk_keep (by go_grown : Below w2.heap.size w2 _) M1); clear C1; have C1 := bk4 N1))
    have hsz := bk_size N1
    refine bodyPost_ret (v := .tuple #[.agg #[.int .i64 l0, .int .i64 l1, .slice A3 rs'.length c3, .slice A4 ms.length c4], .int .i64 0]) ?_ rfl ⟨.inr ⟨hz'.out, A3, c3, A4, c4, rfl, ?_, ?_⟩, by go_grown⟩
    · simp [results, Tryz.results8, go_sem, C1]
    · exact Gr.at (B := w.heap.size + 1) ((((Gr.set _ _ _ _).trans (.set _ _ _ _)).trans (.set _ _ _ _)).trans (.set _ _ _ _)) hat3 (no_str str_rd hat3 N1)
    · exact Gr.at (B := w.heap.size + 1) ((((Gr.set _ _ _ _).trans (.set _ _ _ _)).trans (.set _ _ _ _)).trans (.set _ _ _ _)) hat4 (no_str str_mv hat4 N1)
  · have hz2 : (firstE [E1, E2] != 0) = true := by simpa using hz
    have hz' := Lib.hid hz
    clear hz
    go_enter Tryz.func8, Tryz.ntmps8
    go_wp2_with (first | (go_at_call 24; refine (hO.out _ ?_).mono ?_; (· go_grown); rintro e w1 ⟨rfl, hb⟩; have hbw := via (by go_grown : Below w.heap.size w _) hb; have hsw := hbw.size; have B0 : w1.heap[w.heap.size]? = some (.cells #[.int .i64 l0, .int .i64 l1, .slice A n c, .slice A2 ms.length c2] 27 (0, 0)) := bk_keep hb (by (repeat (first | assumption | (refine bk_new _ _ ?_; (simp; done)) | refine bk_drew ?_ | refine bk_alloc ?_ _ | refine bk_set ?_ (by simp <;> omega) _))); have B1 : w1.heap[w.heap.size + 1]? = some (.cells #[.int .i64 0, .int .i64 0, .slice none 0 0, .slice none 0 0] 27 (0, 0)) := bk_keep hb (by (repeat (first | assumption | (refine bk_new _ _ ?_; (simp; done)) | refine bk_drew ?_ | refine bk_alloc ?_ _ | refine bk_set ?_ (by simp <;> omega) _)))) | (go_at_call 34; refine (hNu.out _ ?_).mono ?_; (· go_grown); rintro e w2 ⟨rfl, hb2⟩; replace hbw := via (by go_grown : Below w.heap.size w _) hb2; replace hsw := hbw.size; have M0 := bk_keep hb2 (bk_keep (by go_grown : Below w1.heap.size w1 _) B0); have M1 := bk_keep hb2 (bk_keep (by go_grown : Below w1.heap.size w1 _) B1); have M2 : w2.heap[w1.heap.size]? = some (.cells #[.int .i64 l0, .int .i64 l1, .slice A n c, .slice A2 ms.length c2] 66 (0, 0)) := bk_keep hb2 (by (repeat (first | assumption | (refine bk_new _ _ ?_; (simp; done)) | refine bk_drew ?_ | refine bk_alloc ?_ _ | refine bk_set ?_ (by simp <;> omega) _))); have C0 := bk4 M0; have C1 := bk4 M1; have C2 := bk4 M2) | (go_at_call 33; refine (first2n _ _ _ (by rfl)).mono ?_; rintro e w' ⟨rfl, rfl⟩))
    refine bodyPost_ret (v := .tuple #[.agg #[.int .i64 0, .int .i64 0, .slice none 0 0, .slice none 0 0], .int .i64 (firstE [E1, E2])]) ?_ rfl ⟨.inl ⟨hz'.out, rfl⟩, by go_grown⟩
    simp [results, Tryz.results8, go_sem, C1]
set_option maxRecDepth 100000 in
set_option maxHeartbeats 4000000 in
theorem checkBlamed_any (l0 l1 : Int) (A A2 : Option Addr) (rs : List Rd) (ms : List Mv) (c c2 : Nat) (B : Option Addr) (l : List Int) (cl : Nat) (w : World)
    (hs : ∀ x ∈ rs, x.c.size ≤ 9223372036854775807) (hs2 : ∀ x ∈ ms, x.f.size ≤ 9223372036854775807 ∧ x.t.size ≤ 9223372036854775807)
    (hn : rs.length ≤ 1000) (hm : ms.length ≤ 1000) (hl : l.length ≤ 1000) (hat : At 4 Rd.cs w A rs) (hat2 : At 4 Mv.cs w A2 ms) (hatl : At 1 Ic w B l) :
    Calls Tryz.prog 10 #[.agg #[.int .i64 l0, .int .i64 l1, .slice A rs.length c, .slice A2 ms.length c2], .slice B l.length cl] w fun e w' =>
      e = .returned (.int .i64 (firstE [(checkB l0 l1 rs ms).2, lstE rs.length none l, unl (cov (allPairs l0 l1 rs ms) l) 20])) ∧ Below w.heap.size w w' := by
  have hO := Lib.hid fun W hb => openBook_any l0 l1 A A2 rs ms c c2 W hs (hat.below hb) hs2 (hat2.below hb)
  have hNu := Lib.hid fun W (hb : Below w.heap.size w W) => numbersErr_any l0 l1 A A2 rs.length c ms.length c2 B l cl W hn hl (hatl.below hb)
  have hWo := Lib.hid fun W (hb : Below w.heap.size w W) => without_any l0 l1 A A2 rs ms c c2 B l cl W hn hm hl (hat.below hb) (hat2.below hb) (hatl.below hb)
  have hPa := Lib.hid fun (h : (checkB l0 l1 rs ms).2 = 0) A A2 c c2 W h1 h2 => pairs_any l0 l1 A A2 (wo rs l) ms c c2 W (wo_right (right_of h) l) h1 h2
  have hPn := Lib.hid (wo_pairs (l0 := l0) (l1 := l1) (rs := rs) (ms := ms) (l := l))
  generalize (checkB l0 l1 rs ms).2 = E1 at *
  generalize lstE rs.length none l = E2 at *
  unfold CopyGot at hWo
  generalize rs.length = n at *
  generalize wo rs l = rs' at *
  generalize cov (allPairs l0 l1 rs ms) l = R at *
  generalize allPairs l0 l1 rs' ms = ps at *
  have hpe : (decide (ps.length = 0)) = R := by
    rcases hPn.out with ⟨h1, h2⟩
    cases R with
    | true => rw [h2 rfl]; rfl
    | false =>
      rw [decide_eq_false_iff_not]
      intro h
      cases h1 (List.eq_nil_of_length_eq_zero h)
  clear hs hs2 hn hl hm hat hat2 hatl hPn
  have hfd : ∀ (a b x y : Value) (W : World), Sem.run Tryz.prog (Instr.field 66 (.agg #[a, b, x, y]) 0) W = .ok (.agg #[a, b, x, y]) W := fun _ _ _ _ _ => by kernel_rfl
  by_cases hz : firstE [E1, E2] = 0
  · have hz2 : (firstE [E1, E2] != 0) = false := by simp [hz]
    have hz0 : E1 = 0 ∧ E2 = 0 := by
      unfold firstE firstE firstE at hz
      by_cases h1 : E1 = 0
      · rw [if_pos h1] at hz
        by_cases h2 : E2 = 0
        · exact ⟨h1, h2⟩
        · rw [if_neg h2] at hz; exact absurd hz h2
      · rw [if_neg h1] at hz; exact absurd hz h1
    replace hPa := Lib.hid (hPa.out hz0.1)
    have hv : Hid (firstE [E1, E2, unl R 20] = unl R 20) := by
      unfold Hid
      rw [hz0.1, hz0.2]
      unfold firstE firstE firstE
      rw [if_pos rfl, if_pos rfl]
      cases R <;> rfl
    clear hz hz0
    have hpe' : ((ps.length : Int) == 0) = R := by
      rw [← hpe]
      by_cases h : ps.length = 0 <;> simp [h]
    rw [hv.out]
    clear hpe hv
    go_enter Tryz.func10, Tryz.ntmps10
    go_wp2_with (first | (go_at_call 24; refine (hO.out _ ?_).mono ?_; (· go_grown); rintro e w1 ⟨rfl, hb⟩; have hbw := via (by go_grown : Below w.heap.size w _) hb; have hsw := hbw.size; have B0 : w1.heap[w.heap.size]? = some (.cells #[.int .i64 l0, .int .i64 l1, .slice A n c, .slice A2 ms.length c2] 27 (0, 0)) := bk_keep hb (by (repeat (first | assumption | (refine bk_new _ _ ?_; (simp; done)) | refine bk_drew ?_ | refine bk_alloc ?_ _ | refine bk_set ?_ (by simp <;> omega) _)))) | (go_at_call 34; refine (hNu.out _ ?_).mono ?_; (· go_grown); rintro e w2 ⟨rfl, hb2⟩; replace hbw := via (by go_grown : Below w.heap.size w _) hb2; replace hsw := hbw.size; have M0 := bk_keep hb2 (bk_keep (by go_grown : Below w1.heap.size w1 _) B0); have M2 : w2.heap[w1.heap.size]? = some (.cells #[.int .i64 l0, .int .i64 l1, .slice A n c, .slice A2 ms.length c2] 66 (0, 0)) := bk_keep hb2 (by (repeat (first | assumption | (refine bk_new _ _ ?_; (simp; done)) | refine bk_drew ?_ | refine bk_alloc ?_ _ | refine bk_set ?_ (by simp <;> omega) _))); have C0 := bk4 M0; have C2 := bk4 M2) | (go_at_call 33; refine (first2n _ _ _ (by rfl)).mono ?_; rintro e w' ⟨rfl, rfl⟩) | (go_at_call 35; refine (hWo.out _ ?_).mono ?_; (· go_grown); rintro e w3 ⟨⟨A3, c3, A4, c4, rfl, hat3, hat4⟩, hb3⟩; replace hbw := via (by go_grown : Below w.heap.size w _) hb3) | (go_at_call 25; refine (hPa.out A3 A4 c3 c4 _ hat3 hat4).mono ?_; rintro e w4 ⟨⟨A5, c5, rfl, hat5⟩, hb4⟩; replace hbw := via hbw hb4) | (go_at_call 36; refine (unless_any _ _ _).mono ?_; rintro e w' ⟨rfl, rfl⟩))
    go_ret
    exact ⟨rfl, by go_grown⟩
  · have hz2 : (firstE [E1, E2] != 0) = true := by simpa using hz
    have hv : Hid (firstE [E1, E2, unl R 20] = firstE [E1, E2]) := by
      unfold Hid
      unfold firstE firstE firstE at hz ⊢
      by_cases h1 : E1 = 0
      · rw [if_pos h1] at hz ⊢
        by_cases h2 : E2 = 0
        · rw [if_pos h2] at hz; exact absurd rfl hz
        · rw [if_neg h2, if_pos h1, if_neg h2]
      · rw [if_neg h1, if_neg h1]
    rw [hv.out]
    clear hz hpe hPa hv
    go_enter Tryz.func10, Tryz.ntmps10
    go_wp2_with (first | (go_at_call 24; refine (hO.out _ ?_).mono ?_; (· go_grown); rintro e w1 ⟨rfl, hb⟩; have hbw := via (by go_grown : Below w.heap.size w _) hb; have hsw := hbw.size; have B0 : w1.heap[w.heap.size]? = some (.cells #[.int .i64 l0, .int .i64 l1, .slice A n c, .slice A2 ms.length c2] 27 (0, 0)) := bk_keep hb (by (repeat (first | assumption | (refine bk_new _ _ ?_; (simp; done)) | refine bk_drew ?_ | refine bk_alloc ?_ _ | refine bk_set ?_ (by simp <;> omega) _)))) | (go_at_call 34; refine (hNu.out _ ?_).mono ?_; (· go_grown); rintro e w2 ⟨rfl, hb2⟩; replace hbw := via (by go_grown : Below w.heap.size w _) hb2; replace hsw := hbw.size; have M0 := bk_keep hb2 (bk_keep (by go_grown : Below w1.heap.size w1 _) B0); have M2 : w2.heap[w1.heap.size]? = some (.cells #[.int .i64 l0, .int .i64 l1, .slice A n c, .slice A2 ms.length c2] 66 (0, 0)) := bk_keep hb2 (by (repeat (first | assumption | (refine bk_new _ _ ?_; (simp; done)) | refine bk_drew ?_ | refine bk_alloc ?_ _ | refine bk_set ?_ (by simp <;> omega) _))); have C0 := bk4 M0; have C2 := bk4 M2) | (go_at_call 33; refine (first2n _ _ _ (by rfl)).mono ?_; rintro e w' ⟨rfl, rfl⟩))
    go_ret
    exact ⟨rfl, by go_grown⟩
end Go.Proofs
