import Derived.Test.YtmnjoamkaapjcaaGreatMg5
import Derived.BigRegion
set_option linter.unusedSimpArgs false
set_option linter.unusedVariables false
namespace Go.Proofs
open Go.RowKit

theorem bookE_zero {l0 l1 : Int} {n m : Nat} (h : bookE l0 l1 n m = 0) : within l0 0 100000 = true ∧ within l1 0 100000 = true ∧ l0 ≤ l1 ∧ n ≤ 40 ∧ m ≤ 60 := by
  unfold bookE firstE unl at h
  by_cases h1 : within l0 0 100000 = true <;> by_cases h2 : within l1 0 100000 = true <;> by_cases h3 : l0 ≤ l1 <;> by_cases h4 : (n : Int) ≤ 40 <;> by_cases h5 : (m : Int) ≤ 60 <;> simp [h1, h2, h3, h4, h5, firstE] at h
  exact ⟨h1, h2, h3, by omega, by omega⟩

set_option maxRecDepth 100000 in
set_option maxHeartbeats 2000000 in
theorem checkBook_good (l0 l1 : Int) (A A2 : Option Addr) (rs : List Rd) (ms : List Mv) (c c2 : Nat) (w : World) (hok : bookE l0 l1 rs.length ms.length = 0)
    (hs : ∀ x ∈ rs, x.c.size ≤ 9223372036854775807) (hat : At 4 Rd.cs w A rs)
    (hs2 : ∀ x ∈ ms, x.f.size ≤ 9223372036854775807 ∧ x.t.size ≤ 9223372036854775807) (hat2 : At 4 Mv.cs w A2 ms) :
    Calls Tryz.prog 52 #[.agg #[.int .i64 l0, .int .i64 l1, .slice A rs.length c, .slice A2 ms.length c2]] w fun e w' =>
      e = .returned (bval (checkB l0 l1 rs ms)) ∧ Below w.heap.size w w' := by
  obtain ⟨h1, h2, h3, h4, h5⟩ := bookE_zero hok
  have hcb : checkB l0 l1 rs ms = if (datedE rdErr Rd.d rs none 0).2 = 0 then
      if (datedE moveE Mv.d ms none 0).2 = 0 then ((0, 0), 0) else ((2, (datedE moveE Mv.d ms none 0).1), (datedE moveE Mv.d ms none 0).2)
    else ((1, (datedE rdErr Rd.d rs none 0).1), (datedE rdErr Rd.d rs none 0).2) := by unfold checkB; rw [if_pos hok]
  rw [hcb]
  clear hcb
  have hR := fun W hb => datedR_any A rs c W (by omega) hs (At.below hat hb)
  have hM := fun W hb => datedM_any A2 ms c2 W h5 hs2 (At.below hat2 hb)
  obtain ⟨n, hn⟩ : ∃ n, rs.length = n := ⟨_, rfl⟩
  obtain ⟨m, hm⟩ : ∃ m, ms.length = m := ⟨_, rfl⟩
  obtain ⟨i1, e1, hie⟩ : ∃ i e, datedE rdErr Rd.d rs none 0 = (i, e) := ⟨_, _, rfl⟩
  obtain ⟨i2, e2, hie2⟩ : ∃ i e, datedE moveE Mv.d ms none 0 = (i, e) := ⟨_, _, rfl⟩
  rw [hie] at hR ⊢
  rw [hie2] at hM ⊢
  rw [hn] at hR h4 hok ⊢
  rw [hm] at hM h5 hok ⊢
  have hok' := Lib.hid hok
  have hR' := Lib.hid hR
  have hM' := Lib.hid hM
  dsimp only at hR' hM' ⊢
  clear hR hM hok hn hm hie hie2 hs hs2 hat hat2
  have h4' : (n : Int) ≤ 40 := by omega
  have h5' : (m : Int) ≤ 60 := by omega
  clear h4 h5
  have hf : (firstE [unl true 2, unl true 9, unl true 8] != 0) = false := by decide
  have hgo : (if e1 = 0 then if e2 = 0 then (((0 : Int), (0 : Int)), (0 : Int)) else ((2, i2), e2) else ((1, i1), e1)) = ((if e1 = 0 then (if e2 = 0 then 0 else 2) else 1, if e1 = 0 then (if e2 = 0 then 0 else i2) else i1), if e1 = 0 then e2 else e1) := by
    split
    · split
      · rename_i h; rw [h]
      · rfl
    · rfl
  rw [hgo]
  clear hgo
  have hcase : ((e1 != 0) = false ∧ (e2 != 0) = false ∧ e1 = 0 ∧ e2 = 0) ∨ ((e1 != 0) = false ∧ (e2 != 0) = true ∧ e1 = 0 ∧ e2 ≠ 0) ∨ ((e1 != 0) = true ∧ e1 ≠ 0) := by
    by_cases a : e1 = 0 <;> by_cases b : e2 = 0 <;> simp [a, b]
  rcases hcase with ⟨hx1, hx2, hy⟩ | ⟨hx1, hx2, hy⟩ | ⟨hx1, hy⟩
  all_goals
    first | (obtain ⟨rfl, rfl⟩ := hy; simp only [if_true, if_pos]) | (obtain ⟨rfl, hy2⟩ := hy; simp only [if_true, if_neg hy2]; have hy2' := Lib.hid hy2; clear hy2) | (simp only [if_neg hy]; have hy' := Lib.hid hy; clear hy)
    go_enter Tryz.func52, Tryz.ntmps52
    go_wp2_with (go_at_call 43; refine (within_any _ _ _ _).mono ?_; rintro e w' ⟨rfl, rfl⟩)
    refine region_in w 7 (by kernel_rfl) (by kernel_rfl) (by go_grown) ?_
    intro hgc hbx
    simp only [List.take_succ_cons, List.take_zero, List.drop_succ_cons, List.drop_zero]
    repeat (go_big_quiet_step (first
      | (go_at_call 75; exact Grew.call (orderErr_any _ _ _))
      | (go_at_call 36; exact Grew.call_same (unless_any _ _ _))))
    refine wpQuiet_nil ?_
    intro w1 hb hbw hsz
    clear hgc hbx
    have hcc := gcell hb
    have hff := gfrozen hb
    simp only [World.size_alloc] at hsz
    have hz0 : w.heap.size < w1.heap.size := by omega
    have hz1 : w.heap.size + 1 < w1.heap.size := by omega
    go_wp2_with (first
      | (go_at_call 33; refine (first3 _ _ _ _).mono ?_; rintro e w' ⟨rfl, rfl⟩)
      | (go_at_call 76; refine (hR'.out _ ?_).mono ?_; (· go_grown); rintro e w2 ⟨rfl, hb2⟩; have hcc2 := gcell hb2; have hff2 := gfrozen hb2; have hbw2 := via (via_alloc hbw _) hb2; have hy0 : w.heap.size < w2.heap.size := (by have := hb2.size; simp at this; omega); have hy1 : w.heap.size + 1 < w2.heap.size := (by have := hb2.size; simp at this; omega))
      | (go_at_call 79; refine (hM'.out _ ?_).mono ?_; (· go_grown); rintro e w3 ⟨rfl, hb3⟩; have hcc3 := gcell hb3; have hff3 := gfrozen hb3; have hbw3 := via hbw2 hb3))
    refine bodyPost_ret (v := bval ((_, _), _)) ?_ rfl ⟨rfl, ?_⟩
    · first
        | (simp [results, Tryz.results52, go_sem, hcc, hff, hz0, hz1, hcc2, hff2, hy0, hy1, hcc3, hff3]; rfl)
        | (simp [results, Tryz.results52, go_sem, hcc, hff, hz0, hz1, hcc2, hff2, hy0, hy1]; rfl)
    · go_grown
theorem checkBook_any (l0 l1 : Int) (A A2 : Option Addr) (rs : List Rd) (ms : List Mv) (c c2 : Nat) (w : World)
    (hs : ∀ x ∈ rs, x.c.size ≤ 9223372036854775807) (hat : At 4 Rd.cs w A rs)
    (hs2 : ∀ x ∈ ms, x.f.size ≤ 9223372036854775807 ∧ x.t.size ≤ 9223372036854775807) (hat2 : At 4 Mv.cs w A2 ms) :
    Calls Tryz.prog 52 #[.agg #[.int .i64 l0, .int .i64 l1, .slice A rs.length c, .slice A2 ms.length c2]] w fun e w' =>
      e = .returned (bval (checkB l0 l1 rs ms)) ∧ Below w.heap.size w w' := by
  by_cases h : bookE l0 l1 rs.length ms.length = 0
  · exact checkBook_good l0 l1 A A2 rs ms c c2 w h hs hat hs2 hat2
  · have := checkBook_bad l0 l1 A A2 rs.length c ms.length c2 w h
    unfold checkB
    rw [if_neg h]
    exact this

theorem openBook_any (l0 l1 : Int) (A A2 : Option Addr) (rs : List Rd) (ms : List Mv) (c c2 : Nat) (w : World)
    (hs : ∀ x ∈ rs, x.c.size ≤ 9223372036854775807) (hat : At 4 Rd.cs w A rs)
    (hs2 : ∀ x ∈ ms, x.f.size ≤ 9223372036854775807 ∧ x.t.size ≤ 9223372036854775807) (hat2 : At 4 Mv.cs w A2 ms) :
    Calls Tryz.prog 24 #[.agg #[.int .i64 l0, .int .i64 l1, .slice A rs.length c, .slice A2 ms.length c2]] w fun e w' =>
      e = .returned (.tuple #[.agg #[.int .i64 l0, .int .i64 l1, .slice A rs.length c, .slice A2 ms.length c2], .int .i64 (checkB l0 l1 rs ms).2]) ∧ Below w.heap.size w w' := by
  have hC := Lib.hid fun W hb => checkBook_any l0 l1 A A2 rs ms c c2 W hs (At.below hat hb) hs2 (At.below hat2 hb)
  unfold bval at hC
  generalize checkB l0 l1 rs ms = r at hC ⊢
  obtain ⟨⟨m1, m2⟩, e1⟩ := r
  dsimp only at hC ⊢
  clear hs hat hs2 hat2
  go_enter Tryz.func24, Tryz.ntmps24
  go_wp2_with (go_at_call 52; refine (hC.out _ ?_).mono ?_; (· go_grown); rintro e w1 ⟨rfl, hb⟩; have hcc := gcell hb; have hff := gfrozen hb; have hbw := via (by go_grown : Below w.heap.size w _) hb; have hz0 : w.heap.size < w1.heap.size := (by have := hb.size; simp at this; omega); have hz1 : w.heap.size + 1 < w1.heap.size := (by have := hb.size; simp at this; omega))
  refine bodyPost_ret (v := .tuple #[.agg #[.int .i64 l0, .int .i64 l1, .slice A rs.length c, .slice A2 ms.length c2], .int .i64 e1]) ?_ rfl ⟨rfl, ?_⟩
  · simp [results, Tryz.results24, go_sem, hcc, hff, hz0, hz1]
  · go_grown
end Go.Proofs

set_option linter.unusedSimpArgs false
set_option linter.unusedVariables false
namespace Go.Proofs
open Go.RowKit

def contra (l0 l1 : Int) (ms : List Mv) (x y : Rd) : Bool :=
  eqS x.c y.c && (decide (1000 * y.hi < allowsLo l0 l1 ms x y.d) || decide (allowsHi l0 l1 ms x y.d < 1000 * y.lo))
/-- What is known of a right book. -/
structure Right (l0 l1 : Int) (rs : List Rd) (ms : List Mv) : Prop where
  l0 : 0 ≤ l0 ∧ l0 ≤ 100000
  l1 : 0 ≤ l1 ∧ l1 ≤ 100000
  rn : rs.length ≤ 40
  mn : ms.length ≤ 60
  rd : ∀ x ∈ rs, 0 ≤ x.d ∧ x.d ≤ 100000 ∧ 0 ≤ x.lo ∧ x.lo ≤ 100000 ∧ 0 ≤ x.hi ∧ x.hi ≤ 100000
  mv : ∀ m ∈ ms, 0 ≤ m.v ∧ m.v ≤ 100000

theorem At.two {α : Type} {sz : Nat} {cs : α → List Value} {w : World} {A : Option Addr} {l : List α} (h : At sz cs w A l) {i j : Nat} {x y : α} (hi : l[i]? = some x) (hj : l[j]? = some y) :
    ∃ b o, A = some ⟨b, o, none⟩ ∧ b < w.heap.size ∧ (∀ k v, (cs x)[k]? = some v → w.cell? ⟨b, o + i * sz + k, none⟩ = some v) ∧ (∀ k v, (cs y)[k]? = some v → w.cell? ⟨b, o + j * sz + k, none⟩ = some v) := by
  obtain ⟨b, o, rfl, hb, hc⟩ := h i x hi
  obtain ⟨b', o', hA, _, hc'⟩ := h j y hj
  obtain ⟨rfl, rfl⟩ : b = b' ∧ o = o' := by injection hA with hA; injection hA with e1 e2 _; exact ⟨e1, e2⟩
  exact ⟨b, o, rfl, hb, hc, hc'⟩

set_option maxRecDepth 100000 in
set_option maxHeartbeats 2000000 in
theorem contradict_any (l0 l1 : Int) (A A2 : Option Addr) (rs : List Rd) (ms : List Mv) (c c2 : Nat) (i j : Nat) (x y : Rd) (w : World) (hok : Right l0 l1 rs ms)
    (hx : rs[i]? = some x) (hy : rs[j]? = some y) (hat : At 4 Rd.cs w A rs) (hat2 : At 4 Mv.cs w A2 ms) :
    Calls Tryz.prog 53 #[.agg #[.int .i64 l0, .int .i64 l1, .slice A rs.length c, .slice A2 ms.length c2], .int .i64 i, .int .i64 j] w fun e w' =>
      e = .returned (.bool (contra l0 l1 ms x y)) ∧ Below w.heap.size w w' := by
  have hxr := hok.rd x (List.mem_of_getElem? hx)
  have hyr := hok.rd y (List.mem_of_getElem? hy)
  obtain ⟨b, o, rfl, hb, hcx, hcy⟩ := hat.two hx hy
  have hil : i < rs.length := (List.getElem?_eq_some_iff.1 hx).1
  have hjl : j < rs.length := (List.getElem?_eq_some_iff.1 hy).1
  have hrn := hok.rn
  have hA := fun W hW => allows_any l0 l1 (.slice (some ⟨b, o, none⟩) rs.length c) A2 ms c2 x y.d W hok.mn hok.mv (At.below hat2 hW) hok.l0.1 hok.l0.2 hok.l1.1 hok.l1.2 hyr.1 hyr.2.1 ⟨hxr.1, hxr.2.1⟩ ⟨hxr.2.2.1, hxr.2.2.2.1⟩ ⟨hxr.2.2.2.2.1, hxr.2.2.2.2.2⟩
  unfold contra eqS
  generalize allowsLo l0 l1 ms x y.d = a1 at *
  generalize allowsHi l0 l1 ms x y.d = a2 at *
  obtain ⟨xc, xd, xlo, xhi⟩ := x
  obtain ⟨yc, yd, ylo, yhi⟩ := y
  have x0 := hcx 0 _ rfl
  have x1 := hcx 1 _ rfl
  have x2 := hcx 2 _ rfl
  have x3 := hcx 3 _ rfl
  have y0 := hcy 0 _ rfl
  have y1 := hcy 1 _ rfl
  have y2 := hcy 2 _ rfl
  have y3 := hcy 3 _ rfl
  dsimp only at x0 x1 x2 x3 y0 y1 y2 y3 hA hxr hyr
  simp only [Nat.add_zero] at x0 y0
  generalize rs.length = n at *
  obtain ⟨g1, g2, g3, g4, g5, g6⟩ := hyr
  have hA' := Lib.hid hA
  clear hA hcx hcy hx hy hat hat2 hok hxr
  obtain ⟨q, hq⟩ : ∃ q, (xc.toList == yc.toList) = q := ⟨_, rfl⟩
  rw [hq]
  go_enter Tryz.func53, Tryz.ntmps53
  go_wp2_with fail
  obtain ⟨W0, hW0⟩ : ∃ W0, w.alloc (.cells #[.int .i64 l0, .int .i64 l1, .slice (some ⟨b, o, none⟩) n c, .slice A2 ms.length c2] 66) = W0 := ⟨_, rfl⟩
  have k0 : W0.cell? ⟨w.heap.size, 2, none⟩ = some (.slice (some ⟨b, o, none⟩) n c) := by rw [← hW0]; simp
  have k1 : W0.cell? ⟨w.heap.size, 0, none⟩ = some (.int .i64 l0) := by rw [← hW0]; simp
  have k2 : W0.cell? ⟨w.heap.size, 1, none⟩ = some (.int .i64 l1) := by rw [← hW0]; simp
  have k3 : W0.cell? ⟨w.heap.size, 3, none⟩ = some (.slice A2 ms.length c2) := by rw [← hW0]; simp
  have hs0 : w.heap.size < W0.heap.size := by rw [← hW0]; simp
  have hbb : b < W0.heap.size := by omega
  have hw0 : Below w.heap.size w W0 := by rw [← hW0]; go_grown
  have z0 := (hw0.cell (p := ⟨b, o + i * 4, none⟩) hb).trans x0
  have z1 := (hw0.cell (p := ⟨b, o + i * 4 + 1, none⟩) hb).trans x1
  have z2 := (hw0.cell (p := ⟨b, o + i * 4 + 2, none⟩) hb).trans x2
  have z3 := (hw0.cell (p := ⟨b, o + i * 4 + 3, none⟩) hb).trans x3
  have u0 := (hw0.cell (p := ⟨b, o + j * 4, none⟩) hb).trans y0
  have u1 := (hw0.cell (p := ⟨b, o + j * 4 + 1, none⟩) hb).trans y1
  have u2 := (hw0.cell (p := ⟨b, o + j * 4 + 2, none⟩) hb).trans y2
  have u3 := (hw0.cell (p := ⟨b, o + j * 4 + 3, none⟩) hb).trans y3
  rw [hW0]
  clear x0 x1 x2 x3 y0 y1 y2 y3 hW0
  have hi3 : (i : Int) < (n : Int) := by omega
  have hj3 : (j : Int) < (n : Int) := by omega
  have h1 : w.heap.size < W0.heap.size + 1 := by omega
  have h2 : w.heap.size < W0.heap.size + 1 + 1 := by omega
  have hcase : q = false ∨ (q = true ∧ 1000 * yhi < a1) ∨ (q = true ∧ a1 ≤ 1000 * yhi) := by
    cases q
    · exact .inl rfl
    · rcases Int.lt_or_le (1000 * yhi) a1 with h | h
      · exact .inr (.inl ⟨rfl, h⟩)
      · exact .inr (.inr ⟨rfl, h⟩)
  go_region
  all_goals
    rcases hcase with rfl | ⟨rfl, hp⟩ | ⟨rfl, hp⟩
    all_goals
      go_wp2_with (go_at_call 69; refine (hA'.out _ ?_).mono ?_; (· go_grown); rintro e w1 ⟨rfl, hb1⟩; have hcc := gcell hb1; have hff := gfrozen hb1; have hsz := hb1.size; simp only [World.size_alloc, World.size_drew] at hsz; have e0 : w.heap.size < w1.heap.size := (by omega); have e1 : W0.heap.size < w1.heap.size := (by omega); have e2 : W0.heap.size + 1 < w1.heap.size := (by omega); have hbw := via (by go_grown : Below w.heap.size w _) hb1)
      go_ret
      refine ⟨ret_bool ?_, by go_grown⟩
      first
        | rfl
        | (simp only [Bool.true_and, Bool.false_and, decide_eq_true hp, Bool.true_or]; done)
        | (rw [decide_eq_false (by omega : ¬ 1000 * yhi < a1)]; simp; done)
end Go.Proofs
