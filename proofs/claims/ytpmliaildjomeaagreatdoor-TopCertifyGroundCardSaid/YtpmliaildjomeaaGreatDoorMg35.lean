import Derived.Test.YtpmliaildjomeaaGreatDoorMg27
import Derived.Test.YtpmliaildjomeaaGreatDoorMg34
import Derived.Test.YtpmliaildjomeaaGreatDoorMg28
set_option linter.unusedSimpArgs false
set_option linter.unusedVariables false
namespace Go.Proofs
open Go.RowKit
set_option linter.unusedVariables false
/-! The reference's copies. -/
/-- 'append([]T{}, xs...)': what comes back is the call's own. -/
theorem append_copy_own {P : Program} {α : Type} {sz : Nat} {cs : α → List Value} (hsz : ∀ y, (cs y).length = sz) (hp : 0 < sz) {x : World} {t ty e : TypeId} {i : TypeInfo} {z : Value} {bytes : Nat}
    (ht : P.underlying t = some (.slice e)) (hi : P.info? e = some i) (hz : i.zero = some z) (hs : i.size = sz) (hzs : z.cells.size = sz) (hby : i.bytes = bytes) (hbb : bytes ≤ 1000)
    (b base : Nat) (hbb2 : base ≤ b) (hblk : x.heap[b]? = some (.cells #[] e (0, 0))) (hbs : base ≤ x.heap.size) {l : List α} {A : Option Addr} (c n : Nat) (hn : l.length = n) (hat : At sz cs x A l) (hl : l.length ≤ 1000) :
    ∃ A2 c2 x', (Builtin.append_ #[t, t] ty #[.slice (some ⟨b, 0, none⟩) 0 0, .slice A n c]).run P x = .ok (.slice A2 n c2) x' ∧ Below x.heap.size x x' ∧ x'.ownsRow base e sz (.slice A2 n c2) n (l.flatMap cs) := by
  subst hn
  cases l with
  | nil =>
    refine ⟨some ⟨b, 0, none⟩, 0, x, ?_, Below.refl _ _, by simp, .inr ⟨b, 0, #[], rfl, hbb2, hblk, Nat.le_refl _, Nat.zero_le _, by simp, by simp⟩⟩
    cases A with
    | none => simp [Builtin.append_, run_underlying ht, sizeOf, typeInfo, hi, Builtin.lenOf, Builtin.firstCells, loadCells, loadCellsFrom, storeCells]
    | some a => simp [Builtin.append_, run_underlying ht, sizeOf, typeInfo, hi, Builtin.lenOf, Builtin.firstCells, loadCells, loadCellsFrom, storeCells]
  | cons y l' =>
    obtain ⟨l, hl'⟩ : ∃ l, y :: l' = l := ⟨_, rfl⟩
    have hne : 0 < l.length := by rw [← hl']; simp
    rw [hl'] at hat hl ⊢
    obtain ⟨a, rfl⟩ : ∃ a, A = some a := by
      obtain ⟨b', o', h, -⟩ := hat 0 y (by rw [← hl']; rfl)
      exact ⟨_, h⟩
    have hfl := flatB_len cs sz hsz l
    have hnews := at_news hsz hat
    have hbt : l.length * bytes ≤ 1000 * 1000 := Nat.mul_le_mul hl hbb
    subst hs
    subst hby
    have hr := run_append_grow (P := P) (w := x) t ty e i z ht hi hz ⟨b, 0, none⟩ 0 0 [] (by simp) (by simp) a l.length c (l.flatMap cs) hfl hnews (by omega) (by omega) (growslice_fits (by omega) (by rw [Nat.zero_add]; omega))
    simp only [Nat.zero_add] at hr
    have hge := grownCap_ge x l.length 0 e
    have hcm : grownCap x l.length 0 e ≤ maxLen := grownCap_le_maxLen x l.length 0 e (by unfold maxLen; omega)
    have hb' : Below x.heap.size x (x.drew.alloc (.cells (([] : List Value).toArray ++ (l.flatMap cs).toArray ++ Builtin.zeroCells z.cells (grownCap x l.length 0 e - l.length)) e)) := ((Below.refl _ x).drew).alloc (by simp) _
    refine ⟨_, _, _, hr, hb', hfl, .inr ⟨x.heap.size, _, _, rfl, hbs, heap_alloc_new x.drew _, hge, hcm, ?_, ?_⟩⟩
    · simp only [Array.size_append, List.size_toArray, size_zeroCells, hzs, hfl, List.length_nil, Nat.zero_add, ← Nat.add_mul]
      congr 1
      omega
    · simp only [Array.toList_append, List.nil_append]
      rw [← hfl]
      exact List.take_left
section
variable {P : Program} {ops : Array Oper}
theorem wpList_app {rest : List Oper} {o : Oper} {a : Act} {x x' : World} {v1 v2 v' : Value} {Q : Exit → Act → World → Prop} (hgd : o.guard = none) (s y : Operand) (t : TypeId)
    (ho : o.op = .call { callee := .builtin .append, args := #[s, y], argTypes := #[t, t] }) (hs : a.eval s = v1) (hy : a.eval y = v2)
    (hr : (Builtin.append_ #[t, t] o.type #[v1, v2]).run P x = .ok v' x') (h : wpList P ops Q rest (a.put o.dst v') x') : wpList P ops Q (o :: rest) a x := by
  refine wpList_plain hgd fun K hK => ?_
  unfold Oper.wp execOp
  simp only [ho, resolve, invoke, builtin, Sem.run_bind, Sem.run_pure, Result.andThen_ok, List.map_toArray, List.map_cons, List.map_nil, hs, hy, hr]
  exact hK _ _ h
end
set_option maxRecDepth 100000 in
set_option maxHeartbeats 1000000 in
theorem refInts_any (A : Option Addr) (l : List Int) (c n : Nat) (w : World) (hat : At 1 Zc w A l) (hn : l.length = n) (hl : n ≤ 1000) :
    Calls Tryz.prog 20 #[.slice A n c] w fun e w' => (∃ A2 c2, e = .returned (.slice A2 n c2) ∧ w'.ownsRow w.heap.size 3 1 (.slice A2 n c2) n (l.flatMap Zc)) ∧ Below w.heap.size w w' := by
  obtain ⟨i0, hi, hz0, hz1, hz2⟩ := info_parts Tryz.info3
  obtain ⟨A2, c2, x', hr, hb, hown⟩ := append_copy_own (P := Tryz.prog) (sz := 1) (cs := Zc) (x := w.alloc (.cells #[] 3 (0, 0))) (t := 33) (ty := 33) (e := 3) (fun _ => rfl) (by decide) Tryz.underlying33 hi hz0 hz1 rfl hz2 (by decide) w.heap.size w.heap.size (Nat.le_refl _) (bk_new _ _ rfl) (by simp) c n hn (hat.below (new_below _ _)) (by omega)
  have hr' := Lib.hid hr
  have hown' := Lib.hid hown
  have hbw := via (new_below _ _) hb
  clear hr hown hi hz0 hz1 hz2 hat
  go_enter Tryz.func20, Tryz.ntmps20
  go_wp2_with (at_builtin; refine wpList_app rfl _ _ 33 rfl rfl rfl hr'.out ?_)
  go_ret
  exact ⟨⟨A2, c2, rfl, hown'.out⟩, hbw⟩
set_option maxRecDepth 100000 in
set_option maxHeartbeats 4000000 in
theorem refCopy_any (pA eA : Option Addr) (pc ec pn en : Nat) (ps : List Pa) (es : List En) (w : World) (hB : BookAt w pA pc ps eA ec es) (hF : FewB ps es) (hpn : ps.length = pn) (hen : es.length = en) (he9 : en ≤ 900) :
    Calls Tryz.prog 9 #[.agg #[.slice pA pn pc, .slice eA en ec]] w fun e w' => (∃ A c A2 c2 es2, e = .returned (.agg #[.slice A pn c, .slice A2 en c2]) ∧ es2.length = en ∧ es2.map En.sig = es.map En.sig ∧ w'.ownsRow w.heap.size 71 5 (.slice A pn c) pn (ps.flatMap Pa.cs) ∧ EnsOwn w' w.heap.size (.slice A2 en c2) es2) ∧ Below w.heap.size w w' := by
  obtain ⟨j0, ji, jz0, jz1, jz2⟩ := info_parts infoPa
  obtain ⟨Ap, cp, w2, hr, hb, hOp⟩ := append_copy_own (P := Tryz.prog) (sz := 5) (cs := Pa.cs) (x := ((w.alloc (.cells #[.slice pA pn pc, .slice eA en ec] 25 (0, 0))).alloc (.cells #[.slice none 0 0, .slice none 0 0] 25 (0, 0))).alloc (.cells #[] 71 (0, 0))) (t := 22) (ty := 22) (e := 71) (fun _ => rfl) (by decide) (by first | exact Tryz.underlying22 | kernel_rfl) ji jz0 jz1 rfl jz2 (by decide) (w.heap.size + 2) (w.heap.size + 2) (Nat.le_refl _) (bk_new _ _ (by simp)) (by simp) pc pn hpn (hB.P.below (by go_grown)) (by have := hF.p; omega)
  have hr' := Lib.hid hr
  have M0 := bk_keep hb (by (repeat (first | assumption | (refine bk_new _ _ ?_; (simp; done)) | refine bk_drew ?_ | refine bk_alloc ?_ _ | refine bk_set ?_ (by simp <;> omega) _)) : (((w.alloc (.cells #[.slice pA pn pc, .slice eA en ec] 25 (0, 0))).alloc (.cells #[.slice none 0 0, .slice none 0 0] 25 (0, 0))).alloc (.cells #[] 71 (0, 0))).heap[w.heap.size]? = some (.cells #[.slice pA pn pc, .slice eA en ec] 25 (0, 0)))
  have M1 := bk_keep hb (by (repeat (first | assumption | (refine bk_new _ _ ?_; (simp; done)) | refine bk_drew ?_ | refine bk_alloc ?_ _ | refine bk_set ?_ (by simp <;> omega) _)) : (((w.alloc (.cells #[.slice pA pn pc, .slice eA en ec] 25 (0, 0))).alloc (.cells #[.slice none 0 0, .slice none 0 0] 25 (0, 0))).alloc (.cells #[] 71 (0, 0))).heap[w.heap.size + 1]? = some (.cells #[.slice none 0 0, .slice none 0 0] 25 (0, 0)))
  have hbw2 : Below w.heap.size w w2 := via (by go_grown) hb
  have hsz2 := bk_size M1
  have hsz3 := hb.size
  clear hr ji jz0 jz1 jz2 hb
  have hec : en ≤ ec := by rw [← hen]; exact hB.ec'
  have hE' := Lib.hid hB.E
  have hnl' := Lib.hid hB.nil
  have hen' := Lib.hid hen
  have hco' := Lib.hid hF.co
  obtain ⟨i0, hi, hz0, hz1, hz2⟩ := info_parts infoEn
  have hs2 : ∀ x, (sizeOf 25).run Tryz.prog x = .ok 2 x := fun x => by kernel_rfl
  have ha2 : ∀ x, (isAgg 25).run Tryz.prog x = .ok true x := fun x => by kernel_rfl
  clear hB hF hpn hen
  go_enter Tryz.func9, Tryz.ntmps9
  have hOp := Lib.hid hOp
  have D0 := bk2 M0
  go_wp2_with (at_builtin; refine wpList_app rfl _ _ 22 rfl rfl rfl hr'.out ?_)
  go_loopw [4] (fun i wr => ∃ j : Nat, ∃ v : Value, ∃ xs : List En, j ≤ en ∧ i = .int .i64 j ∧ wr.heap[w2.heap.size]? = some (.cells #[.slice Ap pn cp, v] 25 (0, 0)) ∧ Hid (xs.length = j) ∧ Hid (xs.map En.sig = (es.take j).map En.sig) ∧ Hid (EnsOwn wr (w2.heap.size + 1) v xs) ∧ Below w2.heap.size w2 wr) (fun i _ => en - (intOf i).toNat)
  case atStart => exact ⟨0, .slice none 0 0, [], Nat.zero_le _, rfl, by (repeat (first | assumption | (refine bk_new _ _ ?_; (simp; done)) | refine bk_drew ?_ | refine bk_alloc ?_ _ | refine bk_set ?_ (by simp <;> omega) _)), Lib.hid rfl, Lib.hid rfl, Lib.hid (EnsOwn.nil _ _), by go_grown⟩
  case round =>
    obtain ⟨j, v, xs, hj, rfl, M3, hxl, hxs, hown, hb2⟩ := hrel
    have hown0 := hown.out.own
    rw [hxl.out] at hown0
    obtain ⟨A5, c5, rfl⟩ := own_slice hown0
    clear hown0
    have hbw : Below w.heap.size w wr := via hbw2 hb2
    have D0 := bk2 (bk_keep hb2 M0)
    have D1 := bk2 (bk_keep hb2 M1)
    have D3 := bk2 M3
    have hsr := bk_size M3
    by_cases hlt : j < en
    · have hjI : (j : Int) < (en : Int) := by omega
      obtain ⟨x, hx⟩ : ∃ x, es[j]? = some x := ⟨_, List.getElem?_eq_getElem (by rw [hen'.out]; exact hlt)⟩
      have hxm := List.mem_of_getElem? hx
      obtain ⟨b, o, rfl, hbb, hc⟩ := (hE'.out.below hbw).1 j x hx
      have y0 := hc 0 _ rfl
      have y1 := hc 1 _ rfl
      have y2 := hc 2 _ rfl
      simp only [Nat.add_zero] at y0
      obtain ⟨L, hL⟩ : ∃ L, x.co.length = L := ⟨_, rfl⟩
      have hCi := Lib.hid fun W (hb : Below wr.heap.size wr W) => refInts_any x.A x.co x.c L W (((hE'.out.below hbw).2 x hxm).below hb) hL (by rw [← hL]; exact hco'.out x hxm)
      have hts := Lib.hid (show (es.take (j + 1)).map En.sig = (es.take j).map En.sig ++ [x.sig] by rw [List.take_add_one, hx]; simp)
      have hL' := Lib.hid hL
      have hy1 : wr.cell? ⟨b, o + j * 3 + 1, none⟩ = some (.slice x.A L x.c) := by rw [← hL]; exact y1
      clear hc hx hxm y1 hL
      go_wp2_with (first
        | (go_at_call 20; refine (hCi.out _ (new_below _ _)).mono ?_; rintro e w5 ⟨⟨A6, c6, rfl, hO6⟩, hb5⟩; (have Q3 := bk_keep hb5 (bk_alloc M3 (.cells #[.string x.nm, .slice x.A L x.c, .int .i64 x.mo] 73 (0, 0)))); (have Q5 := bk_keep hb5 (bk_new wr (.cells #[.string x.nm, .slice x.A L x.c, .int .i64 x.mo] 73 (0, 0)) rfl)); (have E3 := bk2 Q3); (have E5 := bk3 Q5); (have hw65 := via (new_below wr (.cells #[.string x.nm, .slice x.A L x.c, .int .i64 x.mo] 73 (0, 0))) hb5); (have hW6 : Below wr.heap.size wr ((w5.setCell ⟨wr.heap.size, 1, none⟩ (.slice A6 L c6))) := hw65.trans (((OnlyB.refl wr.heap.size w5).set 1 _).below _ (Nat.le_refl _))); (have hown7 := Lib.hid (hown.out.below (via hW6 (new_below ((w5.setCell ⟨wr.heap.size, 1, none⟩ (.slice A6 L c6))) (.cells #[.string x.nm, .slice A6 L c6, .int .i64 x.mo] 73 (0, 0)))))); (have hO6' := Lib.hid hO6); clear hO6 hb5)
        | (at_builtin; refine wpList_append_lie rfl (.tmp 28) (.tmp 30) 23 73 i0 _ (.slice A5 j c5) 48 (w2.heap.size + 1) j w5.heap.size 3 (xs.flatMap En.cs) [.string x.nm, .slice A6 L c6, .int .i64 x.mo] 73 rfl rfl rfl (by kernel_rfl) hi hz0 hz1 hz2 rfl (by decide) (by decide) rfl ?c1 ?c2 ?c3 ?c4 ?c5 ?_))
      case c1 => have := hown7.out.own; rwa [hxl.out] at this
      case c2 => exact bk_new _ _ (by simp)
      case c3 => simp [Value.oneCell']
      case c4 => omega
      case c5 => have := hown7.out; have := hW6.size; simp at this ⊢; omega
      intro v' w8 ho8 hg8 hl8
      obtain ⟨A8, c8, rfl⟩ := own_slice ho8
      have hs6 : ((w5.setCell ⟨wr.heap.size, 1, none⟩ (.slice A6 L c6))).heap.size = w5.heap.size := setCell_size _ _ _
      have hlo : ∀ g, A6 = some g → wr.heap.size + 1 ≤ g.block ∧ g.block < w5.heap.size := fun g e => by
        have := hO6'.out.lt g.block (by rw [e]; rfl)
        simp only [World.size_alloc] at this
        exact this
      have o7 := owns_below (owns_kept hO6'.out fun r e => ((OnlyB.refl wr.heap.size w5).set 1 (.slice A6 L c6)).other r (by have := (hO6'.out.lt r e).1; simp at this; omega)) (new_below ((w5.setCell ⟨wr.heap.size, 1, none⟩ (.slice A6 L c6))) (.cells #[.string x.nm, .slice A6 L c6, .int .i64 x.mo] 73 (0, 0)))
      have o5 := hown7.out.own
      rw [hxl.out] at o5
      have hlt5 := fun r e => (hown.out.own.lt r e).2
      have hE8 : EnsOwn w8 (w2.heap.size + 1) (.slice A8 (j + 1) c8) (xs ++ [⟨x.nm, A6, c6, x.co, x.mo⟩]) := by
        refine EnsOwn.push hown7.out (x := ⟨x.nm, A6, c6, x.co, x.mo⟩) (own_at o7 hL'.out) (own_nil o7) (fun g e => ?_) hg8 ?_ ?_
        · have h1 := hlo g e
          refine ⟨by omega, ?_, fun h => ?_⟩
          · simp; omega
          · have := hlt5 _ h.symm
            omega
        · have := ho8
          simp only [hxl.out, En.cs, hL'.out]
          exact this
        · rcases hl8 with h | h
          · exact .inl h
          · exact .inr (by rw [h]; simp)
      have R3 := bk_grown hg8 (bk_alloc (bk_setO (i := 1) (u := .slice A6 L c6) Q3 (show w2.heap.size ≠ wr.heap.size by omega)) (.cells #[.string x.nm, .slice A6 L c6, .int .i64 x.mo] 73 (0, 0))) (not_own o5 (Nat.lt_succ_self _))
      have hbw8 : Below w2.heap.size w2 w8 := grown_below ((hb2.trans (hW6.mono (by omega))).trans ((new_below ((w5.setCell ⟨wr.heap.size, 1, none⟩ (.slice A6 L c6))) (.cells #[.string x.nm, .slice A6 L c6, .int .i64 x.mo] 73 (0, 0))).mono (by omega))) hg8 fun b e => by have := (o5.lt b e).1; omega
      have hE8' := Lib.hid hE8
      clear hE8 o7 o5 hlt5 hlo hs6 ho8 hg8 hl8 hown7 hO6' hW6 hw65
      have F8 := bk2 R3
      obtain ⟨hx1, hx2⟩ : Hid ((xs ++ [(⟨x.nm, A6, c6, x.co, x.mo⟩ : En)]).length = j + 1) ∧ Hid ((xs ++ [(⟨x.nm, A6, c6, x.co, x.mo⟩ : En)]).map En.sig = (es.take (j + 1)).map En.sig) := ⟨Lib.hid (by simp [hxl.out]), Lib.hid (by rw [hts.out, List.map_append, hxs.out]; rfl)⟩
      go_wp2
      go_roundw
      case rel => exact ⟨j + 1, _, _, by omega, by go_num, bk_here (o := 1) R3 (.slice A8 (j + 1) c8) rfl, hx1, hx2, Lib.hid (hE8'.out.other (Nat.lt_succ_self _) ((OnlyB.refl _ _).set _ _) (by simp)), hbw8.trans (((OnlyB.refl w2.heap.size w8).set 1 _).below _ (Nat.le_refl _))⟩
      case measure => first | (simp [intOf]; done) | (simp [intOf]; omega)
    · obtain rfl : en = j := by omega
      have hts : xs.map En.sig = es.map En.sig := by rw [hxs.out, ← hen'.out, List.take_length]
      have hts' := Lib.hid hts
      have ho9 := Lib.hid (owns_below hOp.out hb2)
      clear hts
      go_wp2
      refine bodyPost_ret (v := .agg #[.slice Ap pn cp, .slice A5 en c5]) ?_ rfl ⟨⟨Ap, cp, A5, c5, xs, rfl, hxl.out, hts'.out, ?_, ?_⟩, ?_⟩
      · exact results_cell1 (p := 2) (ad := ⟨w.heap.size + 1, 0, none⟩) rfl (by rfl) (run_loadBlock (T := 25) (cs := [.slice Ap pn cp, .slice A5 en c5]) (ha2 _) (hs2 _) (bk_here (bk_here (bk_keep hb2 M1) _ rfl) _ rfl))
      · exact owns_base (owns_kept ho9.out fun r e => (((OnlyB.refl (w.heap.size + 1) wr).set _ _).set _ _).other r (by have := (ho9.out.lt r e).1; omega)) (by omega)
      · exact (hown.out.other (k := w.heap.size + 1) (by omega) (((OnlyB.refl _ _).set _ _).set _ _) (by simp)).base (by omega)
      · go_grown
end Go.Proofs

set_option linter.unusedSimpArgs false
set_option linter.unusedVariables false
namespace Go.Proofs
open Go.RowKit
set_option linter.unusedVariables false
/-! The reference's copies of a proof and of a certificate. -/
set_option maxRecDepth 100000 in
set_option maxHeartbeats 4000000 in
theorem refProof_any (den lev : Int) (A : Option Addr) (l : List Int) (c n : Nat) (w : World) (hat : At 1 Zc w A l) (hn : l.length = n) (hl : n ≤ 1000) :
    Calls Tryz.prog 39 #[.agg #[.int .i64 den, .int .i64 lev, .slice A n c]] w fun e w' => (∃ A2 c2, e = .returned (.agg #[.int .i64 den, .int .i64 lev, .slice A2 n c2]) ∧ w'.ownsRow w.heap.size 3 1 (.slice A2 n c2) n (l.flatMap Zc)) ∧ Below w.heap.size w w' := by
  have hCi := Lib.hid fun W (hb : Below w.heap.size w W) => refInts_any A l c n W (hat.below hb) hn hl
  have hs3 : ∀ x, (sizeOf 35).run Tryz.prog x = .ok 3 x := fun x => by kernel_rfl
  have ha3 : ∀ x, (isAgg 35).run Tryz.prog x = .ok true x := fun x => by kernel_rfl
  clear hat hn hl
  go_enter Tryz.func39, Tryz.ntmps39
  go_wp2
  refine wp_world ?_
  intro x hx
  have X0 : x.heap[w.heap.size]? = some (.cells #[.int .i64 den, .int .i64 lev, .slice A n c] 35 (0, 0)) := by rw [hx]; (repeat (first | assumption | (refine bk_new _ _ ?_; (simp; done)) | refine bk_drew ?_ | refine bk_alloc ?_ _ | refine bk_set ?_ (by simp <;> omega) _))
  have X1 : x.heap[w.heap.size + 1]? = some (.cells #[.int .i64 0, .int .i64 0, .slice none 0 0] 35 (0, 0)) := by rw [hx]; (repeat (first | assumption | (refine bk_new _ _ ?_; (simp; done)) | refine bk_drew ?_ | refine bk_alloc ?_ _ | refine bk_set ?_ (by simp <;> omega) _))
  have hbx : Below w.heap.size w x := by rw [hx]; go_grown
  have hxs : x.heap.size = w.heap.size + 2 := by rw [hx]; simp
  clear hx
  refine wp_region_any (by kernel_rfl) ?_
  refine any_lastR 8 _ rfl rfl (by kernel_rfl) (by kernel_rfl) (by kernel_rfl) (by kernel_rfl) ?_
  simp only [List.take_succ_cons, List.take_zero]
  apply any_gen w (fun y => Below x.heap.size x y) [6] [] (fun j => j) (fun j => [])
    (fun j g => .slice g.a1 n g.c1)
    (fun j f g y => if j = 6 then y.ownsRow x.heap.size 3 1 (.slice (g 6).a1 n (g 6).c1) n (l.flatMap Zc) else True)
    (fun j h b => if j = 6 then ∃ a, h.a1 = some a ∧ b = a.block else False)
  case hB => kernel_rfl
  case hB' => intro g; kernel_rfl
  case hS => kernel_rfl
  case hN => kernel_rfl
  case hnd => decide
  case htg => decide
  case hinj => decide
  case hD => kernel_rfl
  case hkd => kernel_rfl
  case hC0 => exact Below.refl _ _
  case hCs => exact fun y y' h hb => h.trans (hb.mono h.size)
  case hCw => exact fun y h => via hbx h
  case hCz => exact fun y h => h.size
  case hCo => exact fun y y' b h ho hb => h.trans (ho.below _ hb)
  case hq =>
    intro g u hu hgc hbx hbX
    have D0 := bk3 (bk_keep hu X0)
    have D1 := bk3 (bk_keep hu X1)
    simp only [List.cons_append, List.nil_append, mixL, yieldsC, List.contains_cons, List.contains_nil, Nat.reduceAdd, Nat.reduceBEq, Nat.zero_add, Bool.or_false, Bool.or_true, Bool.false_or, Bool.true_or, Bool.false_eq_true, if_true, if_false, Bool.or_self, Nat.reduceEqDiff]
    repeat (go_big_quiet_step (fail))
    exact wpQuiet_nil rfl
  case hRb =>
    intro j f g y y' h hb
    by_cases e2 : j = 6
    · rw [if_pos e2] at h ⊢; exact owns_below h hb
    rw [if_neg e2]; trivial
  case hRg =>
    intro i f g j h y hne hd hst hR
    by_cases e2 : i = 6
    · rw [if_pos e2] at hR ⊢; subst e2; rw [upd_ne (Ne.symm hne)]; exact hR
    rw [if_neg e2]; trivial
  case hRo =>
    intro i f g b y y' hC hR ho hb hn
    by_cases e2 : i = 6
    · rw [if_pos e2] at hR ⊢; rw [if_pos e2] at hn; subst e2; exact owns_kept hR fun r e => ho.other r (own_ne hn e)
    rw [if_neg e2]; trivial
  case hmake =>
    intro j hj o ho g y hC hdep
    simp only [List.mem_cons, List.not_mem_nil, or_false] at hj
    subst hj
    simp only [List.getElem?_cons_succ, List.getElem?_cons_zero, Option.some.injEq] at ho
    subst ho
    refine does_enter (by kernel_rfl) ((hCi.out y (via hbx hC)).mono ?_)
    rintro e y' ⟨⟨A2, c2, rfl, hO⟩, hb⟩
    refine ⟨_, rfl, { Gh.zero with a1 := A2, c1 := c2 }, rfl, ?_, hb, fun b hb' => own_lt hO (by rw [if_pos rfl] at hb'; exact hb')⟩
    rw [if_pos rfl, upd_self]
    exact owns_base hO hC.size
  case hstore =>
    intro k hk
    cases hk
  case hind =>
    intro j hj
    simp only [List.append_nil, List.mem_cons, List.not_mem_nil, or_false] at hj
    subst hj
    intro g h; kernel_rfl
  intro g y hy hall
  have hO := (hall 6 (by simp)).1
  rw [if_pos rfl] at hO
  clear hall
  have Y1 := bk_keep hy X1
  have hby : Below w.heap.size w y := via hbx hy
  have l1 := fun r e => hO.lt r e
  refine oper_store_block (.tmp 2) (.tmp 10) 35 (by with_reducible rfl) (w.heap.size + 1) [.int .i64 den, .int .i64 lev, .slice (g 6).a1 n (g 6).c1] [.int .i64 0, .int .i64 0, .slice none 0 0] 35 rfl rfl (hs3 _) Y1 rfl (by simp [Value.oneCell']) ?_
  intro w9 hblk9 hg9 hsz9
  have hb9 : Below w.heap.size w w9 := grown_below hby hg9 fun b e => by have := Option.some.inj e; omega
  have hO' := Lib.hid (owns_kept hO fun r e => hg9.5 r (l1 r e).2 (by have := (l1 r e).1; simp; omega))
  clear l1 hg9
  go_wp2
  refine bodyPost_ret (v := .agg #[.int .i64 den, .int .i64 lev, .slice (g 6).a1 n (g 6).c1]) ?_ rfl ⟨⟨(g 6).a1, (g 6).c1, rfl, owns_base hO'.out (by omega)⟩, hb9⟩
  exact results_cell1 (p := 2) (ad := ⟨w.heap.size + 1, 0, none⟩) rfl (by rfl) (run_loadBlock (T := 35) (cs := [.int .i64 den, .int .i64 lev, .slice (g 6).a1 n (g 6).c1]) (ha3 _) (hs3 _) hblk9)
set_option maxRecDepth 100000 in
set_option maxHeartbeats 4000000 in
theorem refCert_any (s : ByteArray) (k ag v den lev : Int) (A : Option Addr) (l : List Int) (c n : Nat) (w : World) (hat : At 1 Zc w A l) (hn : l.length = n) (hl : n ≤ 1000) :
    Calls Tryz.prog 12 #[.agg #[.string s, .int .i64 k, .int .i64 ag, .int .i64 v, .int .i64 den, .int .i64 lev, .slice A n c]] w fun e w' => (∃ A2 c2, e = .returned (.agg #[.string s, .int .i64 k, .int .i64 ag, .int .i64 v, .int .i64 den, .int .i64 lev, .slice A2 n c2]) ∧ w'.ownsRow w.heap.size 3 1 (.slice A2 n c2) n (l.flatMap Zc)) ∧ Below w.heap.size w w' := by
  have hCi := Lib.hid fun W (hb : Below w.heap.size w W) => refProof_any den lev A l c n W (hat.below hb) hn hl
  have hs7 : ∀ x, (sizeOf 37).run Tryz.prog x = .ok 7 x := fun x => by kernel_rfl
  have ha7 : ∀ x, (isAgg 37).run Tryz.prog x = .ok true x := fun x => by kernel_rfl
  clear hat hn hl
  go_enter Tryz.func12, Tryz.ntmps12
  go_wp2_with (go_at_call 39; refine (hCi.out _ (by go_grown)).mono ?_; rintro e w2 ⟨⟨A2, c2, rfl, hO⟩, hb2⟩; (have M0 := bk_keep hb2 (by (repeat (first | assumption | (refine bk_new _ _ ?_; (simp; done)) | refine bk_drew ?_ | refine bk_alloc ?_ _ | refine bk_set ?_ (by simp <;> omega) _)) : ((w.alloc (.cells #[.string s, .int .i64 k, .int .i64 ag, .int .i64 v, .int .i64 den, .int .i64 lev, .slice A n c] 37 (0, 0))).alloc (.cells #[.string (ByteArray.mk #[]), .int .i64 0, .int .i64 0, .int .i64 0, .int .i64 0, .int .i64 0, .slice none 0 0] 37 (0, 0))).heap[w.heap.size]? = some (.cells #[.string s, .int .i64 k, .int .i64 ag, .int .i64 v, .int .i64 den, .int .i64 lev, .slice A n c] 37 (0, 0)))); (have M1 := bk_keep hb2 (by (repeat (first | assumption | (refine bk_new _ _ ?_; (simp; done)) | refine bk_drew ?_ | refine bk_alloc ?_ _ | refine bk_set ?_ (by simp <;> omega) _)) : ((w.alloc (.cells #[.string s, .int .i64 k, .int .i64 ag, .int .i64 v, .int .i64 den, .int .i64 lev, .slice A n c] 37 (0, 0))).alloc (.cells #[.string (ByteArray.mk #[]), .int .i64 0, .int .i64 0, .int .i64 0, .int .i64 0, .int .i64 0, .slice none 0 0] 37 (0, 0))).heap[w.heap.size + 1]? = some (.cells #[.string (ByteArray.mk #[]), .int .i64 0, .int .i64 0, .int .i64 0, .int .i64 0, .int .i64 0, .slice none 0 0] 37 (0, 0)))); (have hbw2 : Below w.heap.size w w2 := via (by go_grown) hb2); (have D0 := bk7 M0); (have D1 := bk7 M1); (have hO' := Lib.hid hO); clear hO hb2)
  obtain ⟨w5, hw5⟩ : ∃ w5, ((w2.setCell ⟨w.heap.size, 4, none⟩ (.int .i64 den)).setCell ⟨w.heap.size, 5, none⟩ (.int .i64 lev)).setCell ⟨w.heap.size, 6, none⟩ (.slice A2 n c2) = w5 := ⟨_, rfl⟩
  have N1 : w5.heap[(w.heap.size + 1)]? = some (.cells #[.string (ByteArray.mk #[]), .int .i64 0, .int .i64 0, .int .i64 0, .int .i64 0, .int .i64 0, .slice none 0 0] 37 (0, 0)) := by rw [← hw5]; exact bk_set (bk_set (bk_set M1 (by dsimp only; omega) _) (by dsimp only; omega) _) (by dsimp only; omega) _
  have hO5 : OnlyB w.heap.size w2 w5 := by rw [← hw5]; exact (((OnlyB.refl _ _).set _ _).set _ _).set _ _
  have hb5 : Below w.heap.size w w5 := by rw [← hw5]; exact ((hbw2.setCell (by dsimp only; omega) _).setCell (by dsimp only; omega) _).setCell (by dsimp only; omega) _
  rw [hw5]
  obtain ⟨w9, hw9⟩ : ∃ w9, (((((((w5.setCell ⟨(w.heap.size + 1), 0, none⟩ (.string s)).setCell ⟨(w.heap.size + 1), 1, none⟩ (.int .i64 k)).setCell ⟨(w.heap.size + 1), 2, none⟩ (.int .i64 ag)).setCell ⟨(w.heap.size + 1), 3, none⟩ (.int .i64 v)).setCell ⟨(w.heap.size + 1), 4, none⟩ (.int .i64 den)).setCell ⟨(w.heap.size + 1), 5, none⟩ (.int .i64 lev)).setCell ⟨(w.heap.size + 1), 6, none⟩ (.slice A2 n c2)) = w9 := ⟨_, rfl⟩
  have R1 : w9.heap[(w.heap.size + 1)]? = some (.cells #[.string s, .int .i64 k, .int .i64 ag, .int .i64 v, .int .i64 den, .int .i64 lev, .slice A2 n c2] 37 (0, 0)) := by rw [← hw9]; exact bk_here (bk_here (bk_here (bk_here (bk_here (bk_here (bk_here N1 _ rfl) _ rfl) _ rfl) _ rfl) _ rfl) _ rfl) _ rfl
  have hO9 : OnlyB (w.heap.size + 1) w5 w9 := by rw [← hw9]; exact (((((((OnlyB.refl _ _).set _ _).set _ _).set _ _).set _ _).set _ _).set _ _).set _ _
  have hb9 : Below w.heap.size w w9 := by rw [← hw9]; exact ((((((hb5.setCell (by dsimp only; omega) _).setCell (by dsimp only; omega) _).setCell (by dsimp only; omega) _).setCell (by dsimp only; omega) _).setCell (by dsimp only; omega) _).setCell (by dsimp only; omega) _).setCell (by dsimp only; omega) _
  rw [hw9]
  have hlt := fun r e => (hO'.out.lt r e).1
  simp only [World.size_alloc] at hlt
  have o9 := Lib.hid (owns_kept (owns_kept hO'.out fun r e => hO5.other r (by have := hlt r e; omega)) fun r e => hO9.other r (by have := hlt r e; omega))
  refine bodyPost_ret (v := .agg #[.string s, .int .i64 k, .int .i64 ag, .int .i64 v, .int .i64 den, .int .i64 lev, .slice A2 n c2]) ?_ rfl ⟨⟨A2, c2, rfl, owns_base o9.out (by simp; omega)⟩, hb9⟩
  exact results_cell1 (p := 2) (ad := ⟨(w.heap.size + 1), 0, none⟩) rfl (by rfl) (run_loadBlock (T := 37) (cs := [.string s, .int .i64 k, .int .i64 ag, .int .i64 v, .int .i64 den, .int .i64 lev, .slice A2 n c2]) (ha7 _) (hs7 _) R1)
end Go.Proofs

set_option linter.unusedSimpArgs false
set_option linter.unusedVariables false
namespace Go.Proofs
open Go.RowKit
set_option linter.unusedVariables false
/-! The reference's comparisons of equal things. -/
set_option maxRecDepth 100000 in
set_option maxHeartbeats 4000000 in
theorem refEqInts_any (A A2 : Option Addr) (l : List Int) (c c2 n : Nat) (w : World) (h1 : At 1 Zc w A l) (h2 : At 1 Zc w A2 l) (hn : l.length = n) (hl : n ≤ 1000) :
    Calls Tryz.prog 47 #[.slice A n c, .slice A2 n c2] w fun e w' => e = .returned (.bool true) ∧ Below w.heap.size w w' := by
  have hn' := Lib.hid hn
  have h1' := Lib.hid h1
  have h2' := Lib.hid h2
  clear hn h1 h2
  go_enter Tryz.func47, Tryz.ntmps47
  go_wp2
  go_loopw [5] (fun i wr => ∃ k : Nat, k ≤ n ∧ i = .int .i64 k ∧ Below w.heap.size w wr) (fun i _ => n - (intOf i).toNat)
  case atStart => exact ⟨0, Nat.zero_le _, rfl, by go_grown⟩
  case round =>
    obtain ⟨k, hk, rfl, hbw⟩ := hrel
    by_cases hlt : k < n
    · have hkI : (k : Int) < (n : Int) := by omega
      have hk0 : (0 : Int) ≤ (k : Int) := by omega
      obtain ⟨x, hx⟩ : ∃ x, l[k]? = some x := ⟨_, List.getElem?_eq_getElem (by rw [hn'.out]; exact hlt)⟩
      obtain ⟨b, o, rfl, hbb, hc⟩ := (h1'.out.below hbw) k x hx
      obtain ⟨b2, o2, rfl, hbb2, hc2⟩ := (h2'.out.below hbw) k x hx
      have y0 := hc 0 _ rfl; have z0 := hc2 0 _ rfl; simp only [Nat.add_zero, Nat.mul_one] at y0 z0
      clear hc hc2 hx
      go_wp2
      refine region_all w (by kernel_rfl) (by kernel_rfl) (by go_grown) ?_
      intro hgc hbx
      repeat (go_big_quiet_step (fail))
      refine wpQuiet_nil ?_
      intro wb hb_wb hw_wb hs_wb
      clear hgc hbx
      go_wp2
      go_roundw
      case rel => exact ⟨k + 1, by omega, by go_num, hw_wb⟩
      case measure => first | (simp [intOf]; done) | (simp [intOf]; omega)
    · obtain rfl : n = k := by omega
      go_wp2
      go_ret
      exact ⟨rfl, by go_grown⟩
set_option maxRecDepth 100000 in
set_option maxHeartbeats 4000000 in
theorem refEqParts_any (A A2 : Option Addr) (l : List Pa) (c c2 n : Nat) (w : World) (h1 : At 5 Pa.cs w A l) (h2 : At 5 Pa.cs w A2 l) (hn : l.length = n) (hl : n ≤ 1000) :
    Calls Tryz.prog 46 #[.slice A n c, .slice A2 n c2] w fun e w' => e = .returned (.bool true) ∧ Below w.heap.size w w' := by
  have hn' := Lib.hid hn
  have h1' := Lib.hid h1
  have h2' := Lib.hid h2
  clear hn h1 h2
  go_enter Tryz.func46, Tryz.ntmps46
  go_wp2
  go_loopw [5] (fun i wr => ∃ k : Nat, k ≤ n ∧ i = .int .i64 k ∧ Below w.heap.size w wr) (fun i _ => n - (intOf i).toNat)
  case atStart => exact ⟨0, Nat.zero_le _, rfl, by go_grown⟩
  case round =>
    obtain ⟨k, hk, rfl, hbw⟩ := hrel
    by_cases hlt : k < n
    · have hkI : (k : Int) < (n : Int) := by omega
      have hk0 : (0 : Int) ≤ (k : Int) := by omega
      obtain ⟨x, hx⟩ : ∃ x, l[k]? = some x := ⟨_, List.getElem?_eq_getElem (by rw [hn'.out]; exact hlt)⟩
      obtain ⟨b, o, rfl, hbb, hc⟩ := (h1'.out.below hbw) k x hx
      obtain ⟨b2, o2, rfl, hbb2, hc2⟩ := (h2'.out.below hbw) k x hx
      have y0 := hc 0 _ rfl; have z0 := hc2 0 _ rfl; have y1 := hc 1 _ rfl; have z1 := hc2 1 _ rfl; have y2 := hc 2 _ rfl; have z2 := hc2 2 _ rfl; have y3 := hc 3 _ rfl; have z3 := hc2 3 _ rfl; have y4 := hc 4 _ rfl; have z4 := hc2 4 _ rfl; simp only [Nat.add_zero] at y0 z0
      clear hc hc2 hx
      go_wp2
      refine region_all w (by kernel_rfl) (by kernel_rfl) (by go_grown) ?_
      intro hgc hbx
      repeat (go_big_quiet_step (fail))
      refine wpQuiet_nil ?_
      intro wb hb_wb hw_wb hs_wb
      clear hgc hbx
      go_wp2
      go_roundw
      case rel => exact ⟨k + 1, by omega, by go_num, hw_wb⟩
      case measure => first | (simp [intOf]; done) | (simp [intOf]; omega)
    · obtain rfl : n = k := by omega
      go_wp2
      go_ret
      exact ⟨rfl, by go_grown⟩
set_option maxRecDepth 100000 in
set_option maxHeartbeats 4000000 in
theorem refEqProof_any (den lev : Int) (A A2 : Option Addr) (l : List Int) (c c2 n : Nat) (w : World) (h1 : At 1 Zc w A l) (h2 : At 1 Zc w A2 l) (hn : l.length = n) (hl : n ≤ 1000) :
    Calls Tryz.prog 43 #[.agg #[.int .i64 den, .int .i64 lev, .slice A n c], .agg #[.int .i64 den, .int .i64 lev, .slice A2 n c2]] w fun e w' => e = .returned (.bool true) ∧ Below w.heap.size w w' := by
  have hI := Lib.hid fun W (hb : Below w.heap.size w W) => refEqInts_any A A2 l c c2 n W (h1.below hb) (h2.below hb) hn hl
  clear h1 h2 hn hl
  go_enter Tryz.func43, Tryz.ntmps43
  go_wp2_with (go_at_call 47; refine (hI.out _ (by go_grown)).mono ?_; rintro e w2 ⟨rfl, hb2⟩; (have hbw2 : Below w.heap.size w w2 := via (by go_grown) hb2))
  go_ret
  exact ⟨rfl, hbw2⟩
set_option maxRecDepth 100000 in
set_option maxHeartbeats 4000000 in
theorem refEqCert_any (s : ByteArray) (k ag v den lev : Int) (A A2 : Option Addr) (l : List Int) (c c2 n : Nat) (w : World) (h1 : At 1 Zc w A l) (h2 : At 1 Zc w A2 l) (hn : l.length = n) (hl : n ≤ 1000) :
    Calls Tryz.prog 14 #[.agg #[.string s, .int .i64 k, .int .i64 ag, .int .i64 v, .int .i64 den, .int .i64 lev, .slice A n c], .agg #[.string s, .int .i64 k, .int .i64 ag, .int .i64 v, .int .i64 den, .int .i64 lev, .slice A2 n c2]] w fun e w' => e = .returned (.bool true) ∧ Below w.heap.size w w' := by
  have hI := Lib.hid fun W (hb : Below w.heap.size w W) => refEqProof_any den lev A A2 l c c2 n W (h1.below hb) (h2.below hb) hn hl
  clear h1 h2 hn hl
  go_enter Tryz.func14, Tryz.ntmps14
  go_wp2_with (go_at_call 43; refine (hI.out _ (by go_grown)).mono ?_; rintro e w2 ⟨rfl, hb2⟩; (have hbw2 : Below w.heap.size w w2 := via (by go_grown) hb2))
  go_ret
  exact ⟨rfl, hbw2⟩
end Go.Proofs
