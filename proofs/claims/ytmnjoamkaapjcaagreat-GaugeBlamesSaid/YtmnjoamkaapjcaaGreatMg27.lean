import Derived.Test.YtmnjoamkaapjcaaGreatMg23
import Derived.Test.YtmnjoamkaapjcaaGreatMg26
import Derived.Test.YtmnjoamkaapjcaaGreatMg24
import Derived.Deep.AppendLies
import Derived.Maps.AppendAt
set_option linter.unusedSimpArgs false
set_option linter.unusedVariables false
namespace Go.Proofs
open Go.RowKit

theorem contains_any (A : Option Addr) (l : List Int) (c : Nat) (x : Int) (w : World) (hl : l.length ≤ 1000) (hat : At 1 Ic w A l) :
    Calls Tryz.prog 61 #[.slice A l.length c, .int .i64 x] w fun e w' => e = .returned (.bool (l.contains x)) ∧ w = w' := by
  cases l with
  | nil =>
    refine (Tryz.slices_Contains_int_empty A c x w).mono ?_
    rintro e w' ⟨rfl, rfl⟩
    exact ⟨rfl, rfl⟩
  | cons y l' =>
    obtain ⟨l, hl'⟩ : ∃ l, y :: l' = l := ⟨_, rfl⟩
    obtain ⟨b, o, rfl, -⟩ := hat 0 y rfl
    rw [hl'] at hat hl ⊢
    refine (Tryz.slices_Contains_int b o l.length c l x w (Nat.le_refl _) (by omega) ?_).mono ?_
    · intro j hj
      obtain ⟨b', o', e, -, hc⟩ := hat j _ (List.getElem?_eq_getElem hj)
      simp only [Option.some.injEq, Addr.mk.injEq, and_true] at e
      obtain ⟨rfl, rfl⟩ := e
      have := hc 0 _ rfl
      simpa [List.getD, List.getElem?_eq_getElem hj] using this
    · rintro e w' ⟨rfl, rfl⟩
      rw [List.take_of_length_le (Nat.le_refl _)]
      exact ⟨rfl, rfl⟩
theorem Gr.trans {B : Nat} {x y z : World} (h1 : Gr B x y) (h2 : Gr B y z) : Gr B x z := ⟨Nat.le_trans h1.1 h2.1, fun k hk hne => (h2.2 k (Nat.lt_of_lt_of_le hk h1.1) hne).trans (h1.2 k hk hne)⟩
theorem Gr.grown {B : Nat} {x y z : World} {row : Option Nat} (h1 : Gr B x y) (hg : y.grownBy z row) (hr : ∀ b, row = some b → x.heap.size ≤ b) : Gr B x z :=
  ⟨Nat.le_trans h1.1 hg.size, fun k hk hne => (hg.block k (Nat.lt_of_lt_of_le hk h1.1) (fun e => by have := hr k e.symm; omega)).trans (h1.2 k hk hne)⟩
theorem Gr.at {α : Type} {sz : Nat} {cs : α → List Value} {B : Nat} {x x' : World} {A : Option Addr} {l : List α} (g : Gr B x x') (h : At sz cs x A l) (hne : 0 < l.length → ∀ p, A = some p → p.block ≠ B) : At sz cs x' A l := by
  intro k y hy
  obtain ⟨b, o, hA, hb, hc⟩ := h k y hy
  refine ⟨b, o, hA, Nat.lt_of_lt_of_le hb g.1, fun j v hv => ?_⟩
  rw [← hc j v hv]
  exact World.cell?_of_block (a := ⟨b, o + k * sz + j, none⟩) (g.2 b hb (fun e => hne (by have := (List.getElem?_eq_some_iff.1 hy).1; omega) _ hA e))
def Apart (n : Nat) (b : Nat) (h : Gh) : Prop := 0 < n → ∀ p, h.a1 = some p → p.block ≠ b
theorem cells_new' (w : World) (vs : List Value) (t : TypeId) {n : Nat} (hn : n = w.heap.size) : ∀ j u, vs[j]? = some u → (w.alloc (.cells vs.toArray t)).cell? (Addr.add ⟨n, 0, none⟩ j) = some u := by
  subst hn
  intro j u h
  rw [addr_add rfl, World.cell?_alloc_at _ _ _ _ rfl]
  simpa using h
theorem not_own {w : World} {base : Nat} {e : TypeId} {size n : Nat} {v : Value} {xs : List Value} (h : w.ownsRow base e size v n xs) {b : Nat} (hb : b < base) : some b ≠ v.ownBlock := by
  intro he
  have := (h.lt b he.symm).1
  omega
theorem bk_grown {x x' : World} {row : Option Nat} {b : Nat} {o : Obj} (hg : x.grownBy x' row) (h : x.heap[b]? = some o) (hne : some b ≠ row) : x'.heap[b]? = some o := (hg.block b (lt_of_block h) hne).trans h
set_option maxRecDepth 100000 in
set_option maxHeartbeats 4000000 in
theorem without_any (l0 l1 : Int) (A A2 : Option Addr) (rs : List Rd) (ms : List Mv) (c c2 : Nat) (B : Option Addr) (l : List Int) (cl : Nat) (w : World)
    (hn : rs.length ≤ 1000) (hm : ms.length ≤ 1000) (hl : l.length ≤ 1000) (hat : At 4 Rd.cs w A rs) (hat2 : At 4 Mv.cs w A2 ms) (hatl : At 1 Ic w B l) :
    Calls Tryz.prog 35 #[.agg #[.int .i64 l0, .int .i64 l1, .slice A rs.length c, .slice A2 ms.length c2], .slice B l.length cl] w fun e w' =>
      CopyGot l0 l1 (wo rs l) ms e w' ∧ Below w.heap.size w w' := by
  obtain ⟨n, hn0⟩ : ∃ n, rs.length = n := ⟨_, rfl⟩
  have hn' := Lib.hid hn0
  have hat' := Lib.hid hat
  have hCl := Lib.hid fun W (hb : Below w.heap.size w W) => clone_any A2 ms c2 W hm (hat2.below hb)
  have hCo := Lib.hid fun i W (hb : Below w.heap.size w W) => contains_any B l cl i W hl (hatl.below hb)
  have hm' := Lib.hid hm
  rw [hn0] at hn ⊢
  clear hat hat2 hatl hn0 hm
  go_enter Tryz.func35, Tryz.ntmps35
  go_wp2
  refine wp_world ?_
  intro W hW_W
  have hb_W : Below w.heap.size w W := by rw [hW_W]; go_grown
  have D0 : W.heap[w.heap.size]? = some (.cells #[.int .i64 l0, .int .i64 l1, .slice A n c, .slice A2 ms.length c2] 66 (0, 0)) := by rw [hW_W]; exact bk_alloc (bk_new _ _ rfl) _
  have D1 : W.heap[w.heap.size + 1]? = some (.cells #[.int .i64 0, .int .i64 0, .slice none 0 0, .slice none 0 0] 66 (0, 0)) := by rw [hW_W]; exact bk_new _ _ (by simp)
  have hsD := bk_size D1
  clear hW_W
  apply region_cms w 6 9 10 ((fun g => .slice g.a1 ms.length g.c1)) ((fun g x => At 4 Mv.cs x g.a1 ms ∧ ∀ p, g.a1 = some p → w.heap.size + 2 ≤ p.block)) ((Apart ms.length)) ((.cells #[.int .i64 0, .int .i64 0, .slice none 0 0, .slice none 0 0] 66 (0, 0))) ((fun g => .cells #[.int .i64 l0, .int .i64 l1, .slice none 0 0, .slice g.a1 ms.length g.c1] 66 (0, 0)))
  case hm => kernel_rfl
  case hB => kernel_rfl
  case hB' => intro g; kernel_rfl
  case hS => kernel_rfl
  case hN => kernel_rfl
  case hne => decide
  case ht => kernel_rfl
  case hw => exact hb_W
  case hal => intro o ho; simp at ho; subst ho; intro a x; kernel_rfl
  case hPs => exact fun h x x' ⟨hh, hf⟩ hb => ⟨hh.below hb, hf⟩
  case hPa =>
    rintro h x ⟨hh, -⟩ hpos p hp e
    obtain ⟨y, hy⟩ : ∃ y, ms[0]? = some y := ⟨_, List.getElem?_eq_getElem hpos⟩
    obtain ⟨b, o, hA, hb, -⟩ := hh 0 y hy
    rw [hp] at hA
    injection hA with hA
    subst hA
    dsimp only at e
    omega
  case hPo => exact fun h b x x' ⟨hh, hf⟩ ha ho => ⟨Gr.at (B := b) ⟨(ho.below 0 (Nat.zero_le _)).size, fun k _ hk => ho.other k hk⟩ hh ha, hf⟩
  case hcl =>
    intro o ho g x hx hx0
    simp only [List.getElem?_cons_succ, List.getElem?_cons_zero, Option.some.injEq] at ho
    subst ho
    refine ⟨60, #[.slice A2 ms.length c2], by kernel_rfl, (hCl.out x hx0).mono fun e x' ⟨⟨A', c', he, h1, h2⟩, hb⟩ => ⟨{ Gh.zero with a1 := A', c1 := c' }, he, ⟨h1, fun p hp => ?_⟩, fun b hb' hpos p hp => ?_, hb⟩⟩
    · have := h2 p hp
      have := hx.size
      omega
    · have := h2 p hp
      omega
  case hq =>
    intro g u hu hgc hbx hbX
    have C0 := bk4 (bk_keep hu D0)
    simp only [mixL, mkCM, yieldsC, List.contains_cons, List.contains_nil, Nat.reduceAdd, Nat.reduceBEq, Nat.reduceEqDiff, Nat.zero_add, Bool.or_false, Bool.or_true, Bool.false_or, Bool.true_or, Bool.false_eq_true, if_true, if_false, Bool.or_self]
    repeat (go_big_quiet_step (fail))
    exact wpQuiet_nil rfl
  case hind => intro j hj; simp only [List.mem_cons, List.not_mem_nil, or_false] at hj; rcases hj with rfl | rfl | rfl <;> (intro g h; kernel_rfl)
  case hs1 =>
    intro o ho g x hx hz hp
    simp only [List.getElem?_cons_succ, List.getElem?_cons_zero, Option.some.injEq] at ho
    subst ho
    exact ⟨_, run_store4 rfl rfl rfl rfl rfl (by kernel_rfl) (by kernel_rfl) (by kernel_rfl) hz, ((((OnlyB.refl _ _).set _ _).set _ _).set _ _).set _ _, bk_here (bk_here (bk_here (bk_here hz _ rfl) _ rfl) _ rfl) _ rfl⟩
  case hend =>
  intro gg wG hgb hbG hbG0 ⟨hatG, hfmG⟩ hapG hblk
  obtain ⟨Am, hAm⟩ : ∃ a, (gg 6).a1 = a := ⟨_, rfl⟩
  obtain ⟨cm, hcm⟩ : ∃ a, (gg 6).c1 = a := ⟨_, rfl⟩
  obtain ⟨G, hG⟩ : ∃ a, (gg 9).b = a := ⟨_, rfl⟩
  unfold Apart at hapG
  rw [hAm] at hatG hapG hblk hfmG
  rw [hcm] at hblk
  rw [hG] at hgb hapG hblk
  rw [hAm, hcm, hG]
  clear hAm hcm hG
  have hatG' := Lib.hid hatG
  have hfmG' := Lib.hid hfmG
  have hapG' := Lib.hid hapG
  clear hatG hapG hfmG
  replace D0 := bk_keep hbG D0
  replace D1 := bk_keep hbG D1
  have C0 := bk4 D0
  have C1 := bk4 D1
  have hGs := bk_size hblk
  have hwG : w.heap.size + 1 < G := by omega
  go_wp2
  obtain ⟨j0, y0, hj, hy0, hy1, hys, hy2⟩ := info_of (t := 62) (n := 4) (b := 40) (by kernel_rfl)
  go_loopw [21] (fun i wr => ∃ (k : Nat) (Av : Option Addr) (cv : Nat), k ≤ n ∧ i = .int .i64 k ∧ wr.ownsRow wG.heap.size 62 4 (.slice Av (woTo rs l k).length cv) (woTo rs l k).length ((woTo rs l k).flatMap Rd.cs) ∧ Below w.heap.size w wr ∧ Gr G wG wr ∧ wr.heap[G]? = some (.cells #[.int .i64 l0, .int .i64 l1, .slice Av (woTo rs l k).length cv, .slice Am ms.length cm] 66 (0, 0))) (fun i _ => n - (intOf i).toNat)
  case atStart => exact ⟨0, none, 0, by omega, rfl, World.ownsRow_nil _ _ _ _, hbG0, .refl _ _, hblk⟩
  case round =>
    obtain ⟨k, Av, cv, hk, rfl, hown, hbr, hgr, D2⟩ := hrel
    have C2 := bk4 D2
    by_cases hlt : k < n
    · obtain ⟨x, hx⟩ : ∃ x, rs[k]? = some x := ⟨_, List.getElem?_eq_getElem (by rw [hn'.out]; exact hlt)⟩
      obtain ⟨b, o, rfl, hbl, hc⟩ := (hat'.out.below hbr) k x hx
      have hx' := Lib.hid hx
      have hlen := wo_len rs l k
      have hsn := wo_snoc (l := l) hx
      obtain ⟨xc, xd, xl, xh⟩ := x
      have c0 := hc 0 _ rfl
      have c1 := hc 1 _ rfl
      have c2 := hc 2 _ rfl
      have c3 := hc 3 _ rfl
      dsimp only at c0 c1 c2 c3
      simp only [Nat.add_zero] at c0
      have hkI : (k : Int) < (n : Int) := by omega
      have hCk := Lib.hid fun W hb => hCo.out (k : Int) W hb
      have hsn' := Lib.hid hsn
      have hown' := Lib.hid hown
      clear hc hx hsn hown
      cases hq : l.contains (k : Int) with
      | true =>
        rw [hq] at hCk
        have hcon := Lib.hid hq
        clear hq
        go_wp2_with (go_at_call 61; refine (hCk.out _ ?_).mono ?_; (· go_grown); rintro e w' ⟨rfl, rfl⟩)
        go_roundw
        case rel =>
          have e : woTo rs l (k + 1) = woTo rs l k := by rw [hsn'.out, hcon.out, if_pos rfl, List.append_nil]
          refine ⟨k + 1, Av, cv, by omega, by go_num, ?_, by go_grown, ?_, ?_⟩
          · rw [e]; exact owns_below hown'.out (by go_grown)
          · exact hgr.trans (.of_below (by go_grown))
          · rw [e]; exact bk_keep (by go_grown : Below wr.heap.size wr _) D2
        case measure => simp [intOf]; omega
      | false =>
        rw [hq] at hCk
        have hcon := Lib.hid hq
        clear hq
        go_wp2_with (first
          | (at_builtin; refine wpList_append_own _ rfl _ _ 24 rfl wG.heap.size 62 j0 y0 4 40 Tryz.underlying24 hj hy0 hy1 hy2 hys (by decide) _ _ _ rfl (owns_below hown'.out (by go_grown)) ⟨wr.heap.size + 1, 0, none⟩ 1 1 (Rd.cs ⟨xc, xd, xl, xh⟩) rfl rfl ?c1 ?c2 ?c3 ?c4 ?c5 ?_)
          | (go_at_call 61; refine (hCk.out _ ?_).mono ?_; (· go_grown); rintro e w' ⟨rfl, rfl⟩))
        case c1 => exact cells_new' _ (Rd.cs ⟨xc, xd, xl, xh⟩) _ (by simp)
        case c2 => intro u hu; simp [Rd.cs] at hu; rcases hu with rfl | rfl | rfl | rfl <;> rfl
        case c3 => unfold maxLen; omega
        case c4 => omega
        case c5 => simp; have := hgr.1; omega
        intro v' w3 hown3 hg3 _
        obtain ⟨g', cap, rfl, -, -⟩ := hown3.form (by omega)
        have hsr := hgr.1
        have hbr3 : Below w.heap.size w w3 := by
          refine Below.grown ?_ hg3 ?_ ?_
          · go_grown
          · have := hbr.size; simp; omega
          · intro r e
            have := (hown'.out.lt r e).1
            omega
        have hgr3 : Gr G wG w3 := by
          refine Gr.grown ?_ hg3 ?_
          · exact hgr.trans (.of_below (by go_grown))
          · intro r e
            exact (hown'.out.lt r e).1
        have E2 := bk_grown hg3 (bk_keep (by go_grown : Below wr.heap.size wr _) D2) (not_own hown'.out hGs)
        have e : woTo rs l (k + 1) = woTo rs l k ++ [⟨xc, xd, xl, xh⟩] := by rw [hsn'.out, hcon.out]; rfl
        have hel : (woTo rs l (k + 1)).length = (woTo rs l k).length + 1 := by rw [e]; simp
        have hown4 : w3.ownsRow wG.heap.size 62 4 (.slice (some ⟨g', 0, none⟩) (woTo rs l (k + 1)).length cap) (woTo rs l (k + 1)).length ((woTo rs l (k + 1)).flatMap Rd.cs) := by
          rw [hel, e, List.flatMap_append]
          simpa using hown3
        rw [← hel]
        have hown5 := Lib.hid hown4
        clear C2 D2 hown3 hg3 hown4 hown' hsn' e hel
        have C2 := bk4 E2
        go_wp2
        go_roundw
        case rel =>
          exact ⟨k + 1, _, _, by omega, by go_num, ownsRow_setCell_below hown5.out (by dsimp only; omega) _, by go_grown, hgr3.trans (.set _ _ _ _), bk_here E2 _ rfl⟩
        case measure => simp [intOf]; omega
    · have hkn : k = n := by omega
      have hkI : ¬ (k : Int) < (n : Int) := by omega
      obtain ⟨A3, c3, e3, hat3⟩ := at_of_owns (cs := Rd.cs) (sz := 4) (fun _ => rfl) hown
      injection e3 with e31 _ e33
      subst e31 e33
      have ew : woTo rs l k = wo rs l := by unfold wo; rw [hkn, hn'.out]
      rw [ew] at hat3 C2 D2 hown
      have D1' : wr.heap[w.heap.size + 1]? = some (.cells #[.int .i64 0, .int .i64 0, .slice none 0 0, .slice none 0 0] 66 (0, 0)) := (hgr.2 _ (bk_size D1) (by omega)).trans D1
      have hat3' := Lib.hid hat3
      have hat4' := Lib.hid (hgr.at hatG'.out hapG'.out)
      have hfr : Hid (0 < (wo rs l).length → ∀ p, Av = some p → wG.heap.size ≤ p.block) := by
        rintro hp p rfl
        rcases hown.2 with ⟨h, -⟩ | ⟨g, cap, cur, h, h2, -⟩
        · cases h
        · injection h with h
          injection h with h
          subst h
          exact h2
      have hsr := bk_size D1'
      clear hat3 hown hgr D1 D0 C0 C1 hkn
      have C1 := bk4 D1'
      go_wp2
      have hsA := bk_size D1'
      refine bodyPost_ret (v := .agg #[.int .i64 l0, .int .i64 l1, .slice Av (wo rs l).length cv, .slice Am ms.length cm]) ?_ rfl ⟨⟨Av, cv, Am, cm, rfl, ?_, ?_⟩, by go_grown⟩
      · simp [results, Tryz.results35, go_sem, C1]
      · exact Gr.at (B := w.heap.size + 1) ((((Gr.set _ _ _ _).trans (.set _ _ _ _)).trans (.set _ _ _ _)).trans (.set _ _ _ _)) hat3'.out (fun hp p e => by
          obtain ⟨y, hy⟩ : ∃ y, (wo rs l)[0]? = some y := ⟨_, List.getElem?_eq_getElem hp⟩
          have := hfr.out hp p e
          omega)
      · exact Gr.at (B := w.heap.size + 1) ((((Gr.set _ _ _ _).trans (.set _ _ _ _)).trans (.set _ _ _ _)).trans (.set _ _ _ _)) hat4'.out (fun hp p e => by
          have := hfmG'.out p e
          omega)
end Go.Proofs

set_option linter.unusedSimpArgs false
set_option linter.unusedVariables false
namespace Go.Proofs
open Go.RowKit

section
variable {P : Program}
def rowG (n : Nat) (h : Gh) : Value := .slice h.a1 n h.c1
def mkA (v : Value) (r m q n : Nat) : Nat → Gh → Value := fun j h => if j = r then v else if j = m then .slice (some ⟨h.b, 0, none⟩) 1 1 else rowG n h
/-- A drawn region that appends one row to a list that lies in a cell of a block ('bB', 'off'): operation 'r' reads the list, 'm' makes the row ('z'), 'q' appends, 'k' stores. -/
theorem region_app {id : Nat} {Q : Exit → Act → World → Prop} {a0 : Act} {w : World} {l : List Oper} (w0 : World) (C : World → Prop) (r m q k : Nat) (bB off : Nat) (cs : Array Value) (tB : TypeId) (z : Obj)
    (base : Nat) (e : TypeId) (sz : Nat) (v : Value) (n : Nat) (xs ys : List Value) (af : (Nat → Gh) → Act)
    (hm : P.follows .mixedOrders = true) (hB : slotsOk l.toArray = true) (hB' : ∀ g, slotsOk (mixL [r, m, q, k] (mkA v r m q (n + 1)) g 0 l).toArray = true) (hS : Region.noSelect l.toArray = true) (hN : spB l.toArray [r, m, q, k] = true)
    (hne : r ≠ m ∧ r ≠ q ∧ r ≠ k ∧ m ≠ q ∧ m ≠ k ∧ q ≠ k)
    (hd : (match l[k]? with | some o => o.dst.isNone && o.after.any (fun e => Region.binds .any e && e.on == q) | none => false) = true)
    (hd2 : (match l[q]? with | some o => o.dst.isSome && o.after.any (fun e => Region.binds .any e && e.on == r) && o.after.any (fun e => Region.binds .any e && e.on == m) | none => false) = true)
    (hC0 : C w) (hCs : ∀ x x', C x → Below x.heap.size x x' → C x') (hCw : ∀ x, C x → Below w0.heap.size w0 x)
    (hCg : ∀ x x' row, C x → x.grownBy x' row → (∀ b, row = some b → base ≤ b) → C x') (hCt : ∀ x u, C x → C (x.setCell ⟨bB, off, none⟩ u))
    (hbase : bB < base) (hbs : base ≤ w0.heap.size ∨ base ≤ w.heap.size)
    (hblk : w.heap[bB]? = some (.cells cs tB (0, 0))) (hown : w.ownsRow base e sz v n xs) (hCz : ∀ x, C x → base ≤ x.heap.size)
    (hq : ∀ g u, C u → (∀ (x : Grew u) (b o : Nat), b < u.heap.size → x.val.cell? ⟨b, o, none⟩ = u.cell? ⟨b, o, none⟩) → Hid (∀ x : Grew u, Below w0.heap.size w0 x.val) → Hid (∀ x : Grew u, C x.val) →
      wpQuiet P (mixL [r, m, q, k] (mkA v r m q (n + 1)) g 0 l).toArray (fun w' => ∃ x : Grew u, w' = x.val) (fun a' => a' = af g) (mixL [r, m, q, k] (mkA v r m q (n + 1)) g 0 l) a0)
    (hind : ∀ j ∈ [r, m, q, k], ∀ g h, maskL (coneS l.toArray j 0 l []) 0 (af g).tmps.toList = maskL (coneS l.toArray j 0 l []) 0 (af (upd g j h)).tmps.toList)
    (hr : ∀ o, l[r]? = some o → ∀ g x, C x → x.heap[bB]? = some (.cells cs tB (0, 0)) → (execOp (af g).eval o).run P x = .ok (.value v) x)
    (hm1 : ∀ o, l[m]? = some o → ∀ g x, (execOp (af g).eval o).run P x = .ok (.value (.slice (some ⟨x.heap.size, 0, none⟩) 1 1)) (x.alloc z))
    (hq1 : ∀ o, l[q]? = some o → ∀ (g : Nat → Gh) x, C x → x.ownsRow base e sz v n xs → x.heap[(g m).b]? = some z → ∃ v' x', (execOp (af g).eval o).run P x = .ok (.value v') x' ∧ x'.ownsRow base e sz v' (n + 1) (xs ++ ys) ∧ x.grownBy x' v.ownBlock)
    (hk1 : ∀ o, l[k]? = some o → ∀ (g : Nat → Gh) x, x.heap[bB]? = some (.cells cs tB (0, 0)) → (execOp (af g).eval o).run P x = .ok .skip (x.setCell ⟨bB, off, none⟩ (rowG (n + 1) (g q))))
    (hend : ∀ (g : Nat → Gh) x, C x → x.heap[bB]? = some (.cells (cs.setIfInBounds off (rowG (n + 1) (g q))) tB (0, 0)) → x.ownsRow base e sz (rowG (n + 1) (g q)) (n + 1) (xs ++ ys) → Q .normal (af g) x) :
    (Code.region id l.toArray true).wp P Q a0 w := by
  obtain ⟨n1, n2, n3, n4, n5, n6⟩ := hne
  have afterK : ∀ {L : Nat → Bool} {o : Oper}, l[k]? = some o → (∀ e ∈ o.after, Region.binds .any e = true → L e.on = true) → o.dst = none ∧ L q = true := by
    intro L o ho haft
    rw [ho] at hd
    simp only [Bool.and_eq_true, Option.isNone_iff_eq_none] at hd
    obtain ⟨e, he, hb⟩ := Array.any_eq_true'.1 hd.2
    simp only [Bool.and_eq_true, beq_iff_eq] at hb
    have := haft e he hb.1
    rw [hb.2] at this
    exact ⟨hd.1, this⟩
  have afterQ : ∀ {L : Nat → Bool} {o : Oper}, l[q]? = some o → (∀ e ∈ o.after, Region.binds .any e = true → L e.on = true) → L r = true ∧ L m = true := by
    intro L o ho haft
    rw [ho] at hd2
    simp only [Bool.and_eq_true] at hd2
    obtain ⟨e, he, hb⟩ := Array.any_eq_true'.1 hd2.1.2
    obtain ⟨e2, he2, hb2⟩ := Array.any_eq_true'.1 hd2.2
    simp only [Bool.and_eq_true, beq_iff_eq] at hb hb2
    have h1 := haft e he hb.1
    have h2 := haft e2 he2 hb2.1
    rw [hb.2] at h1
    rw [hb2.2] at h2
    exact ⟨h1, h2⟩
  have hlt : ∀ {x : World} {u : Value} {c : Nat} {zs : List Value}, x.ownsRow base e sz u c zs → some bB ≠ u.ownBlock := by
    intro x u c zs h he
    have := (h.lt bB he.symm).1
    omega
  have ownBelow : ∀ {x x' : World} {u : Value} {c : Nat} {zs : List Value}, x.ownsRow base e sz u c zs → Below x.heap.size x x' → x'.ownsRow base e sz u c zs := fun h hb => owns_below h hb
  refine region_mixC w0 C [r, m, q, k] (mkA v r m q (n + 1)) (fun L g x => (L q = true → L r = true ∧ L m = true) ∧ (L k = true → L q = true) ∧ (L k = false → x.heap[bB]? = some (.cells cs tB (0, 0))) ∧
      (L q = false → L m = true → x.heap[(g m).b]? = some z) ∧ (L q = false → x.ownsRow base e sz v n xs) ∧ (L q = true → x.ownsRow base e sz (rowG (n + 1) (g q)) (n + 1) (xs ++ ys)) ∧
      (L k = true → x.heap[bB]? = some (.cells (cs.setIfInBounds off (rowG (n + 1) (g q))) tB (0, 0)))) af hm hB hB' hS hN hC0 hCs hCw ?_ ?_ hq hind ?_ ?_
  · intro L h
    have a1 := h r (by simp)
    have a2 := h m (by simp)
    have a3 := h q (by simp)
    have a4 := h k (by simp)
    exact ⟨fun h => (by rw [a3] at h; cases h), fun h => (by rw [a4] at h; cases h), fun _ => hblk, fun _ h => (by rw [a2] at h; cases h), fun _ => hown, fun h => (by rw [a3] at h; cases h), fun h => (by rw [a4] at h; cases h)⟩
  · rintro L L' g x x' h ⟨j1, j2, j3, j4, j5, j6, j7⟩ hb
    have a1 := h r (by simp)
    have a2 := h m (by simp)
    have a3 := h q (by simp)
    have a4 := h k (by simp)
    rw [a1, a2, a3, a4]
    exact ⟨j1, j2, fun h => bk_keep hb (j3 h), fun h h' => bk_keep hb (j4 h h'), fun h => ownBelow (j5 h) hb, fun h => ownBelow (j6 h) hb, fun h => bk_keep hb (j7 h)⟩
  · intro j hj o ho L g x ⟨j1, j2, j3, j4, j5, j6, j7⟩ hC hb0 hL hafter
    simp only [List.mem_cons, List.not_mem_nil, or_false] at hj
    have notk : L q = false → L k = false := fun h => by
      cases hk : L k with
      | false => rfl
      | true => rw [j2 hk] at h; cases h
    rcases hj with rfl | rfl | rfl | rfl
    · have lq : L q = false := by
        cases hq0 : L q with
        | false => rfl
        | true => rw [(j1 hq0).1] at hL; cases hL
      refine does_value (hr o ho g x hC (j3 (notk lq))) ⟨hC, .inr ⟨Gh.zero, by simp [mkA], ?_⟩⟩
      rw [setL_self, setL_ne (Ne.symm n1), setL_ne (Ne.symm n2), setL_ne (Ne.symm n3), upd_ne (Ne.symm n1), upd_ne (Ne.symm n2)]
      exact ⟨fun h => ⟨rfl, (j1 h).2⟩, j2, j3, j4, j5, j6, j7⟩
    · have lq : L q = false := by
        cases hq0 : L q with
        | false => rfl
        | true => rw [(j1 hq0).2] at hL; cases hL
      refine does_value (hm1 o ho g x) ⟨hCs _ _ hC (new_below _ _), .inr ⟨{ Gh.zero with b := x.heap.size }, by simp [mkA, Ne.symm n1], ?_⟩⟩
      rw [setL_self, setL_ne n1, setL_ne (Ne.symm n4), setL_ne (Ne.symm n5), upd_self, upd_ne (Ne.symm n4)]
      exact ⟨fun h => ⟨(j1 h).1, rfl⟩, j2, fun h => bk_alloc (j3 h) _, fun _ _ => bk_new _ _ rfl, fun h => (j5 h).alloc _, fun h => (j6 h).alloc _, fun h => bk_alloc (j7 h) _⟩
    · obtain ⟨lr, lm⟩ := afterQ ho hafter
      obtain ⟨v', x', r1, r2, r3⟩ := hq1 o ho g x hC (j5 hL) (j4 hL lm)
      obtain ⟨gB, cap, rfl⟩ : ∃ gB cap, v' = .slice (some ⟨gB, 0, none⟩) (n + 1) cap := by
        obtain ⟨gB, cap, h, _⟩ := r2.form (by omega)
        exact ⟨gB, cap, h⟩
      refine does_value r1 ⟨hCg _ _ _ hC r3 (fun b hb => ((j5 hL).lt b hb).1), .inr ⟨{ Gh.zero with a1 := some ⟨gB, 0, none⟩, c1 := cap }, by simp [mkA, Ne.symm n2, Ne.symm n4, rowG], ?_⟩⟩
      rw [setL_self, setL_ne n2, setL_ne n4, setL_ne (Ne.symm n6), upd_self, upd_ne n4]
      have lk := notk hL
      exact ⟨fun _ => ⟨lr, lm⟩, fun _ => rfl, fun h => bk_grown r3 (j3 h) (hlt (j5 hL)), (fun h => by cases h), (fun h => by cases h), fun _ => r2, (fun h => by rw [lk] at h; cases h)⟩
    · obtain ⟨hdn, lq⟩ := afterK ho hafter
      refine does_skip (hk1 o ho g x (j3 hL)) ⟨hCt _ _ hC, .inl ⟨hdn, ?_⟩⟩
      rw [setL_self, setL_ne n3, setL_ne n5, setL_ne n6]
      refine ⟨j1, fun _ => lq, (fun h => by cases h), (fun h => by rw [lq] at h; cases h), (fun h => by rw [lq] at h; cases h), fun h => ?_, fun _ => bk_here (j3 hL) _ rfl⟩
      exact ownsRow_setCell_below (j6 h) (by dsimp only; exact hbase) _
  · intro g x ⟨j1, j2, j3, j4, j5, j6, j7⟩ hC hb0
    exact hend g x hC (j7 rfl) (j6 rfl)
theorem exec_append {o : Oper} {a : Act} {x : World} (s y : Operand) (t e : TypeId) (i : TypeInfo) (z0 v : Value) (size bytes base n b : Nat) (xs ys : List Value) (tb : TypeId)
    (ho : o.op = .call { callee := .builtin .append, args := #[s, y], argTypes := #[t, t] }) (hs : a.eval s = v) (hy : a.eval y = .slice (some ⟨b, 0, none⟩) 1 1)
    (ht : P.underlying t = some (.slice e)) (hi : P.info? e = some i) (hz : i.zero = some z0) (hsize : i.size = size) (hby : i.bytes = bytes) (hzs : z0.cells.size = size) (hsz : 0 < size)
    (hown : x.ownsRow base e size v n xs) (hb : x.heap[b]? = some (.cells ys.toArray tb (0, 0))) (hl : ys.length = size) (h1 : ∀ u ∈ ys, u.oneCell' = true) (h63 : n + 1 ≤ maxLen) (hbytes : (n + 1) * bytes ≤ 140737488355328) (hbase : base ≤ x.heap.size) :
    ∃ v' x', (execOp a.eval o).run P x = .ok (.value v') x' ∧ x'.ownsRow base e size v' (n + 1) (xs ++ ys) ∧ x.grownBy x' v.ownBlock := by
  have hc : ∀ j u, ys[j]? = some u → x.cell? (Addr.add ⟨b, 0, none⟩ j) = some u := by
    intro j u hj
    have e : (Addr.add ⟨b, 0, none⟩ j) = ⟨b, j, none⟩ := by
      unfold Addr.add
      split <;> simp_all
    rw [e, bk_cell hb]
    simpa using hj
  obtain ⟨v', x', r1, r2, r3, -⟩ := run_append_own_at (P := P) x base t o.type e i z0 size bytes ht hi hz hsize hby hzs hsz v n xs hown ⟨b, 0, none⟩ 1 1 ys (by rw [hl, Nat.one_mul]) hc h1 h63 hbytes hbase
  refine ⟨v', x', ?_, r2, r3⟩
  unfold execOp
  simp only [ho, resolve, invoke, builtin, Sem.run_bind, Sem.run_pure, Result.andThen_ok, List.map_toArray, List.map_cons, List.map_nil, hs, hy, r1]
theorem run_load_slice {f : Operand → Value} {o : Oper} {t : TypeId} {p : Operand} {b off : Nat} {A : Option Addr} {n c : Nat} {x : World} (ho : o.op = .load t p) (hag : Sem.run P (isAgg t) x = .ok false x) (hp : f p = .pointer (some ⟨b, off, none⟩)) (hc : x.cell? ⟨b, off, none⟩ = some (.slice A n c)) :
    (execOp f o).run P x = .ok (.value (.slice A n c)) x := by
  unfold execOp
  rw [ho]
  simp [go_sem, hp, hc, hag]
theorem run_store_slice {f : Operand → Value} {o : Oper} {t : TypeId} {p q : Operand} {b off : Nat} {A : Option Addr} {n c : Nat} {u : Value} {x : World} (ho : o.op = .store t p q) (hsz : Sem.run P (sizeOf t) x = .ok 1 x) (hp : f p = .pointer (some ⟨b, off, none⟩)) (hq : f q = .slice A n c) (hc : x.cell? ⟨b, off, none⟩ = some u) (hf : x.frozen? ⟨b, off, none⟩ = false) :
    (execOp f o).run P x = .ok .skip (x.setCell ⟨b, off, none⟩ (.slice A n c)) := by
  unfold execOp
  rw [ho]
  simp [go_sem, hp, hq, hc, hf, hsz]
end
end Go.Proofs
