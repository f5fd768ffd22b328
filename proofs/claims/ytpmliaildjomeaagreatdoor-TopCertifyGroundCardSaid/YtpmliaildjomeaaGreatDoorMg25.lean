import Derived.Test.YtpmliaildjomeaaGreatDoorMg15
import Derived.Test.YtpmliaildjomeaaGreatDoorMg24
import Derived.Test.YtpmliaildjomeaaGreatDoorMg19
import Derived.Test.YtpmliaildjomeaaGreatDoorMg18
set_option linter.unusedSimpArgs false
set_option linter.unusedVariables false
namespace Go.Proofs
open Go.RowKit
set_option linter.unusedVariables false
section
variable {P : Program}
/-! A drawn region: 'm' makes a row of one element, 'q' appends it to a list of one's own; all else is quiet. -/
def mkPu (m nq : Nat) : Nat → Gh → Value := fun j g => if j = m then .slice (some ⟨g.b, 0, none⟩) 1 1 else .slice g.a1 (nq + 1) g.c1
theorem any_push {Q : Exit → Act → World → Prop} {a0 : Act} {w : World} {l : List Oper} (w0 : World) (m q : Nat) (nq sz : Nat) (z : Obj) (row : List Value) (bq : Nat) (te : TypeId) (v : Value) (qs : List Value) (af : (Nat → Gh) → Act)
    (hB : slotsOk l.toArray = true) (hB' : ∀ g, slotsOk (mixL [m, q] (mkPu m nq) g 0 l).toArray = true) (hS : Region.noSelect l.toArray = true) (hN : spB l.toArray [m, q] = true) (hne : m ≠ q)
    (hd : ∀ L : Nat → Bool, ∀ o, l[q]? = some o → (∀ e ∈ o.after, Region.binds .any e = true → L e.on = true) → L m = true)
    (hw : Below w0.heap.size w0 w) (hv0 : ∀ r, v.ownBlock = some r → w0.heap.size ≤ r) (hown : w.ownsRow bq te sz v nq qs)
    (hal : ∀ o, l[m]? = some o → ∀ (g : Nat → Gh) (x : World), KeepC w0 w v x → (execOp (af g).eval o).run P x = .ok (.value (.slice (some ⟨x.heap.size, 0, none⟩) 1 1)) (x.alloc z))
    (hap : ∀ o, l[q]? = some o → ∀ (g : Nat → Gh) (x : World), KeepC w0 w v x → x.ownsRow bq te sz v nq qs → x.heap[(g m).b]? = some z → ∃ v' x', (execOp (af g).eval o).run P x = .ok (.value v') x' ∧ x'.ownsRow bq te sz v' (nq + 1) (qs ++ row) ∧ x.grownBy x' v.ownBlock)
    (hq : ∀ g u, KeepC w0 w v u → (∀ (x : Grew u) (b o : Nat), b < u.heap.size → x.val.cell? ⟨b, o, none⟩ = u.cell? ⟨b, o, none⟩) → Hid (∀ x : Grew u, Below w0.heap.size w0 x.val) → Hid (∀ x : Grew u, KeepC w0 w v x.val) →
      wpQuiet P (mixL [m, q] (mkPu m nq) g 0 l).toArray (fun w' => ∃ x : Grew u, w' = x.val) (fun a' => a' = af g) (mixL [m, q] (mkPu m nq) g 0 l) a0)
    (hind : ∀ j ∈ [m, q], ∀ g h, maskL (coneS l.toArray j 0 l []) 0 (af g).tmps.toList = maskL (coneS l.toArray j 0 l []) 0 (af (upd g j h)).tmps.toList)
    (hend : ∀ (g : Nat → Gh) (x : World), KeepC w0 w v x → x.ownsRow bq te sz (.slice (g q).a1 (nq + 1) (g q).c1) (nq + 1) (qs ++ row) → Q .normal (af g) x) :
    wpAny P .any l.toArray Q l.toArray.size (Array.replicate l.toArray.size false) a0 { w with drawn := w.drawn + 1 } := by
  refine any_mixC w0 (KeepC w0 w v) [m, q] (mkPu m nq) (fun L g x => (L q = true → L m = true) ∧ (L q = false → L m = true → w.heap.size ≤ (g m).b ∧ x.heap[(g m).b]? = some z) ∧ (L q = false → x.ownsRow bq te sz v nq qs) ∧
      (L q = true → x.ownsRow bq te sz (.slice (g q).a1 (nq + 1) (g q).c1) (nq + 1) (qs ++ row))) af hB hB' hS hN (KeepC.refl hw) (fun x x' h hb => h.below hb) (fun x h => h.1) ?_ ?_ hq hind ?_ ?_
  · intro L h
    have a1 := h m (by simp)
    have a2 := h q (by simp)
    rw [a1, a2]
    exact ⟨(fun h => by cases h), (fun _ h => by cases h), fun _ => hown, (fun h => by cases h)⟩
  · rintro L L' g x x' h ⟨j0, j1, j2, j3⟩ hb
    have a1 := h m (by simp)
    have a2 := h q (by simp)
    rw [a1, a2]
    exact ⟨j0, fun h h' => ⟨(j1 h h').1, bk_keep hb (j1 h h').2⟩, fun h => owns_below (j2 h) hb, fun h => owns_below (j3 h) hb⟩
  · intro j hj o ho L g x ⟨j0, j1, j2, j3⟩ hC hb0 hL hafter hclo
    simp only [List.mem_cons, List.not_mem_nil, or_false] at hj
    rcases hj with rfl | rfl
    · have lq : L q = false := by
        cases hh : L q with
        | false => rfl
        | true => rw [j0 hh] at hL; cases hL
      refine does_value (hal o ho g x hC) ⟨hC.below (new_below _ _), .inr ⟨{ Gh.zero with b := x.heap.size }, by simp [mkPu], ?_⟩⟩
      rw [setL_self, setL_ne (Ne.symm hne), upd_self, upd_ne (Ne.symm hne), lq]
      exact ⟨(fun h => by cases h), fun _ _ => ⟨hC.2.1, bk_new _ _ rfl⟩, fun _ => owns_below (j2 lq) (new_below _ _), (fun h => by cases h)⟩
    · have lm := hd L o ho hafter
      obtain ⟨v', x', r1, r2, r3⟩ := hap o ho g x hC (j2 hL) (j1 hL lm).2
      obtain ⟨gB, cap, rfl⟩ := own_slice r2
      refine does_value r1 ⟨hC.grown hw.size hv0 r3 (fun r e => .inr e), .inr ⟨{ Gh.zero with a1 := gB, c1 := cap }, by simp [mkPu, Ne.symm hne], ?_⟩⟩
      rw [setL_self, setL_ne hne, upd_self, upd_ne hne, lm]
      exact ⟨fun _ => rfl, (fun h => by cases h), (fun h => by cases h), fun _ => r2⟩
  · rintro g x ⟨-, -, -, j3⟩ hC hb0
    exact hend g x hC (j3 rfl)
/-- 'append(list, element)' of more than one cell, as an operation. -/
theorem exec_append_cells {f : Operand → Value} {o : Oper} {x : World} (s y : Operand) (t e : TypeId) (i : TypeInfo) (z0 v : Value) (bytes base n b sz : Nat) (xs us : List Value) (tb : TypeId)
    (ho : o.op = .call { callee := .builtin .append, args := #[s, y], argTypes := #[t, t] }) (hs : f s = v) (hy : f y = .slice (some ⟨b, 0, none⟩) 1 1)
    (ht : P.underlying t = some (.slice e)) (hi : P.info? e = some i) (hz : i.zero = some z0) (hsize : i.size = sz) (hby : i.bytes = bytes) (hzs : z0.cells.size = sz) (hbb : bytes ≤ 1000) (hsz : 0 < sz) (hus : us.length = sz)
    (hown : x.ownsRow base e sz v n xs) (hb : x.heap[b]? = some (.cells us.toArray tb (0, 0))) (h1 : ∀ u ∈ us, u.oneCell' = true) (h63 : n + 1 ≤ 1000) (hbase : base ≤ x.heap.size) :
    ∃ v' x', (execOp f o).run P x = .ok (.value v') x' ∧ x'.ownsRow base e sz v' (n + 1) (xs ++ us) ∧ x.grownBy x' v.ownBlock := by
  have hbt : (n + 1) * bytes ≤ 1000 * 1000 := Nat.mul_le_mul h63 hbb
  obtain ⟨g, cap, x', r1, r2, r3, r4, r5⟩ := run_append_lies (P := P) x t o.type base e i z0 sz bytes ht hi hz hsize hby hzs hsz v n xs hown ⟨b, 0, none⟩ 1 1 us (by omega) (fun j v' hj => World.news_of_block hb j v' hj) h1 (by decide) (by unfold maxLen; omega) (by omega) hbase _ rfl
  refine ⟨_, x', ?_, r2, r3⟩
  unfold execOp
  simp only [ho, resolve, invoke, builtin, Sem.run_bind, Sem.run_pure, Result.andThen_ok, List.map_toArray, List.map_cons, List.map_nil, hs, hy, r1]
end
end Go.Proofs

set_option linter.unusedSimpArgs false
set_option linter.unusedVariables false
namespace Go.Proofs
open Go.RowKit
set_option linter.unusedVariables false
/-! only: the book with some of its entries alone. -/
theorem bk_kc {w0 w x : World} {v : Value} {b : Nat} {o : Obj} (h : KeepC w0 w v x) (hb : w.heap[b]? = some o) (hne : some b ≠ v.ownBlock) : x.heap[b]? = some o := (h.2.2 b (lt_of_block hb) hne).trans hb
theorem oper_skip {P : Program} {K : Act → World → Prop} {Q : Exit → Act → World → Prop} {o : Oper} {a : Act} {w x : World} (h : (execOp a.eval o).run P w = .ok .skip x) (hK : K (a.put o.dst undef) x) : o.wp P a w K Q := by
  unfold Oper.wp
  rw [h]
  exact hK
theorem run_store_slice {P : Program} {f : Operand → Value} {o : Oper} {t : TypeId} {p q : Operand} {b off n c : Nat} {A : Option Addr} {u : Value} {x : World} (ho : o.op = .store t p q) (hsz : Sem.run P (sizeOf t) x = .ok 1 x) (hp : f p = .pointer (some ⟨b, off, none⟩)) (hq : f q = .slice A n c) (hc : x.cell? ⟨b, off, none⟩ = some u) (hf : x.frozen? ⟨b, off, none⟩ = false) :
    (execOp f o).run P x = .ok .skip (x.setCell ⟨b, off, none⟩ (.slice A n c)) := by
  unfold execOp
  rw [ho]
  simp [go_sem, hp, hq, hc, hf, hsz]
theorem bk_setO {w : World} {b k i : Nat} {o : Obj} {u : Value} (h : w.heap[k]? = some o) (hne : k ≠ b) : (w.setCell ⟨b, i, none⟩ u).heap[k]? = some o := ((OnlyB.refl b w).set i u).keep hne h
def pickL (es : List En) (S : List Nat) : List En := S.filterMap fun i => es[i]?
theorem pickL_succ {es : List En} {S : List Nat} {j i : Nat} {x : En} (h : S[j]? = some i) (hx : es[i]? = some x) : pickL es (S.take (j + 1)) = pickL es (S.take j) ++ [x] := by
  unfold pickL
  rw [List.take_add_one, h, List.filterMap_append]
  simp [hx]
theorem pickL_len {es : List En} {S : List Nat} (h : ∀ i ∈ S, i < es.length) : (pickL es S).length = S.length := by
  unfold pickL
  induction S with
  | nil => rfl
  | cons i S ih =>
    rw [List.filterMap_cons, List.getElem?_eq_getElem (h i (by simp))]
    simp only [List.length_cons]
    rw [ih fun j hj => h j (by simp [hj])]
set_option maxRecDepth 100000 in
set_option maxHeartbeats 4000000 in
theorem only_any (pA eA sA : Option Addr) (pc ec pn en sc sn : Nat) (es : List En) (S : List Nat) (w : World) (hE : EnsAt w eA es) (hen : es.length = en) (hec : en ≤ ec) (hS : At 1 Zc w sA (S.map fun i : Nat => (i : Int))) (hSn : S.length = sn) (hSi : ∀ i ∈ S, i < en) (h9 : sn ≤ 900) :
    Calls Tryz.prog 50 #[.agg #[.slice pA pn pc, .slice eA en ec], .slice sA sn sc] w fun e w' => (∃ A c, e = .returned (.agg #[.slice pA pn pc, .slice A sn c]) ∧ w'.ownsRow w.heap.size 73 3 (.slice A sn c) sn ((pickL es S).flatMap En.cs)) ∧ Below w.heap.size w w' := by
  have hE' := Lib.hid hE
  have hS' := Lib.hid hS
  have hSn' := Lib.hid hSn
  have hSi' := Lib.hid hSi
  have hen' := Lib.hid hen
  obtain ⟨i0, hi, hz0, hz1, hz2⟩ := info_parts infoEn
  have hs2 : ∀ x, (sizeOf 25).run Tryz.prog x = .ok 2 x := fun x => by kernel_rfl
  have ha2 : ∀ x, (isAgg 25).run Tryz.prog x = .ok true x := fun x => by kernel_rfl
  clear hE hS hSn hSi hen
  go_enter Tryz.func50, Tryz.ntmps50
  go_wp2
  go_loopw [13] (fun i wr => ∃ j : Nat, ∃ v : Value, j ≤ sn ∧ i = .int .i64 j ∧ wr.heap[w.heap.size]? = some (.cells #[.slice pA pn pc, .slice eA en ec] 25 (0, 0)) ∧ wr.heap[w.heap.size + 1]? = some (.cells #[.slice none 0 0, .slice none 0 0] 25 (0, 0)) ∧ wr.heap[w.heap.size + 1 + 1]? = some (.cells #[.slice pA pn pc, v] 25 (0, 0)) ∧ Hid (wr.ownsRow (w.heap.size + 3) 73 3 v j ((pickL es (S.take j)).flatMap En.cs)) ∧ Below w.heap.size w wr) (fun i _ => sn - (intOf i).toNat)
  case atStart => exact ⟨0, .slice none 0 0, Nat.zero_le _, rfl, by (repeat (first | assumption | (refine bk_new _ _ ?_; (simp; done)) | refine bk_drew ?_ | refine bk_alloc ?_ _ | refine bk_set ?_ (by simp <;> omega) _)), by (repeat (first | assumption | (refine bk_new _ _ ?_; (simp; done)) | refine bk_drew ?_ | refine bk_alloc ?_ _ | refine bk_set ?_ (by simp <;> omega) _)), by (repeat (first | assumption | (refine bk_new _ _ ?_; (simp; done)) | refine bk_drew ?_ | refine bk_alloc ?_ _ | refine bk_set ?_ (by simp <;> omega) _)), Lib.hid (World.ownsRow_nil _ _ _ _), by go_grown⟩
  case round =>
    obtain ⟨j, v, hj, rfl, M0, M1, M2, hown, hbw⟩ := hrel
    obtain ⟨A5, c5, rfl⟩ := own_slice hown.out
    have D0 := bk2 M0
    have D1 := bk2 M1
    have D2 := bk2 M2
    by_cases hlt : j < sn
    · have hjI : (j : Int) < (sn : Int) := by omega
      obtain ⟨i, hi2⟩ : ∃ i, S[j]? = some i := ⟨_, List.getElem?_eq_getElem (by rw [hSn'.out]; exact hlt)⟩
      obtain ⟨b3, o3, rfl, hs3, c4⟩ := zc_cell (hS'.out.below hbw) (k := j) (by rw [List.length_map, hSn'.out]; exact hlt)
      rw [List.getD_eq_getElem?_getD, List.getElem?_map, hi2] at c4
      simp only [Option.map_some, Option.getD_some] at c4
      have hie : i < en := hSi'.out i (List.mem_of_getElem? hi2)
      obtain ⟨x, hx⟩ : ∃ x, es[i]? = some x := ⟨_, List.getElem?_eq_getElem (by rw [hen'.out]; exact hie)⟩
      have hps := Lib.hid (pickL_succ hi2 hx)
      obtain ⟨b, o, rfl, hbb, hc⟩ := (hE'.out.below hbw).1 i x hx
      have y0 := hc 0 _ rfl
      have y1 := hc 1 _ rfl
      have y2 := hc 2 _ rfl
      simp only [Nat.add_zero] at y0
      have hiI : (i : Int) < (en : Int) := by omega
      have hEx := Lib.hid fun u (hb : Below w.heap.size w u) => (hE'.out.below hb).1 i x hx
      clear hc hx hi2
      go_wp2
      refine wp_region_any (by kernel_rfl) ?_
      refine any_last 10 _ rfl rfl (by kernel_rfl) (by kernel_rfl) (by kernel_rfl) (by kernel_rfl) ?_
      simp only [List.take_succ_cons, List.take_zero]
      apply any_push w 7 8 j 3 (.cells #[.string x.nm, .slice x.A x.co.length x.c, .int .i64 x.mo] 73 (0, 0)) (En.cs x) (w.heap.size + 3) 73 (.slice A5 j c5) ((pickL es (S.take j)).flatMap En.cs)
      case hB => kernel_rfl
      case hB' => intro g; kernel_rfl
      case hS => kernel_rfl
      case hN => kernel_rfl
      case hne => decide
      case hd =>
        intro L o ho h
        simp at ho
        subst ho
        simp [Region.binds] at h
        simp [h]
      case hw => exact hbw
      case hv0 => exact fun r e => by have := (hown.out.lt r e).1; omega
      case hown => exact hown.out
      case hq =>
        intro g u hu hgc hbx hbX
        have N0 := bk2 (bk_kc hu M0 (not_own hown.out (by omega)))
        have N2 := bk2 (bk_kc hu M2 (not_own hown.out (by omega)))
        obtain ⟨b', o', eA, hbb', hc'⟩ := hEx.out u hu.1
        cases eA
        have y0 := hc' 0 _ rfl
        have y1 := hc' 1 _ rfl
        have y2 := hc' 2 _ rfl
        simp only [Nat.add_zero] at y0
        clear hc'
        simp only [mixL, mkPu, yieldsC, List.contains_cons, List.contains_nil, Nat.reduceAdd, Nat.reduceBEq, Nat.zero_add, Bool.or_false, Bool.or_true, Bool.false_or, Bool.true_or, Bool.false_eq_true, if_true, if_false, Bool.or_self, Nat.reduceEqDiff]
        repeat (go_big_quiet_step (fail))
        exact wpQuiet_nil rfl
      case hal =>
        intro o' ho g y hC
        simp only [List.getElem?_cons_succ, List.getElem?_cons_zero, Option.some.injEq] at ho
        subst ho
        kernel_rfl
      case hap =>
        intro o' ho g y hC hown2 hz
        simp only [List.getElem?_cons_succ, List.getElem?_cons_zero, Option.some.injEq] at ho
        subst ho
        exact exec_append_cells (.tmp 18) (.tmp 24) 23 73 i0 _ _ 48 (w.heap.size + 3) j (g 7).b 3 _ (En.cs x) 73 rfl rfl rfl (by kernel_rfl) hi hz0 hz1 hz2 rfl (by decide) (by decide) rfl hown2 hz (by simp [En.cs, Value.oneCell']) (by omega) (by have := hC.2.1; have := bk_size M2; omega)
      case hind =>
        intro j hj
        simp only [List.mem_cons, List.not_mem_nil, or_false] at hj
        rcases hj with rfl | rfl <;> (intro g h; kernel_rfl)
      intro g u hu hown3
      have N0 := bk_kc hu M0 (not_own hown.out (by omega))
      have N1 := bk_kc hu M1 (not_own hown.out (by omega))
      have N2 := bk_kc hu M2 (not_own hown.out (by omega))
      have C2 := bk2 N2
      have hbu : Below w.heap.size w u := hu.1
      obtain ⟨A6, eA6⟩ : ∃ a, (g 8).a1 = a := ⟨_, rfl⟩
      obtain ⟨c6, ec6⟩ : ∃ a, (g 8).c1 = a := ⟨_, rfl⟩
      rw [eA6, ec6] at hown3
      have ho4 := Lib.hid (show u.ownsRow (w.heap.size + 3) 73 3 (.slice A6 (j + 1) c6) (j + 1) ((pickL es (S.take (j + 1))).flatMap En.cs) by rw [hps.out, List.flatMap_append]; simpa using hown3)
      rw [eA6, ec6]
      refine oper_skip (x := u.setCell ⟨w.heap.size + 1 + 1, 1, none⟩ (.slice A6 (j + 1) c6)) (run_store_slice rfl (by kernel_rfl) rfl rfl C2.2.1 C2.2.2.2.1) ?_
      have hl := fun r e => ho4.out.lt r e
      have ho5 := Lib.hid (owns_kept ho4.out fun r e => ((OnlyB.refl (w.heap.size + 1 + 1) u).set 1 (.slice A6 (j + 1) c6)).other r (by have := (hl r e).1; omega))
      have P0 := bk_setO (i := 1) (u := .slice A6 (j + 1) c6) N0 (show w.heap.size ≠ w.heap.size + 1 + 1 by omega)
      have P1 := bk_setO (i := 1) (u := .slice A6 (j + 1) c6) N1 (show w.heap.size + 1 ≠ w.heap.size + 1 + 1 by omega)
      have P2 := bk_here (o := 1) N2 (.slice A6 (j + 1) c6) rfl
      have hb5 : Below w.heap.size w (u.setCell ⟨w.heap.size + 1 + 1, 1, none⟩ (.slice A6 (j + 1) c6)) := hbu.trans (((OnlyB.refl (w.heap.size + 1 + 1) u).set 1 _).below _ (by omega))
      obtain ⟨W5, hW5⟩ : ∃ x, u.setCell ⟨w.heap.size + 1 + 1, 1, none⟩ (.slice A6 (j + 1) c6) = x := ⟨_, rfl⟩
      rw [hW5] at P0 P1 P2 hb5 ho5 ⊢
      clear hW5 hl
      go_wp2
      go_roundw
      case rel => exact ⟨j + 1, _, by omega, by go_num, P0, P1, P2, ho5, hb5⟩
      case measure => first | (simp [intOf]; done) | (simp [intOf]; omega)
    · obtain rfl : sn = j := by omega
      have hall : S.take sn = S := by rw [← hSn'.out, List.take_length]
      have hown2 := hown.out
      rw [hall] at hown2
      have hown2 := Lib.hid (owns_base hown2 (Nat.le_add_right _ 3))
      have hl := fun r e => hown.out.lt r e
      clear hall
      go_wp2
      refine bodyPost_ret (v := .agg #[.slice pA pn pc, .slice A5 sn c5]) ?_ rfl ⟨⟨A5, c5, rfl, ?_⟩, ?_⟩
      · exact results_cell1 (p := 4) (ad := ⟨w.heap.size + 1, 0, none⟩) rfl (by rfl) (run_loadBlock (T := 25) (cs := [.slice pA pn pc, .slice A5 sn c5]) (ha2 _) (hs2 _) (bk_here (bk_here M1 _ rfl) _ rfl))
      · exact owns_kept hown2.out fun r e => (((OnlyB.refl (w.heap.size + 1) wr).set _ _).set _ _).other r (by have := (hl r e).1; omega)
      · go_grown
end Go.Proofs

set_option linter.unusedSimpArgs false
set_option linter.unusedVariables false
namespace Go.Proofs
open Go.RowKit
set_option linter.unusedVariables false
/-! Entries that the call owns, with the lists that they hold. -/
structure EnsOwn (wr : World) (base : Nat) (v : Value) (xs : List En) : Prop where
  own : wr.ownsRow base 73 3 v xs.length (xs.flatMap En.cs)
  row : ∀ x ∈ xs, At 1 Zc wr x.A x.co ∧ (x.A = none → x.c = 0) ∧ ∀ g, x.A = some g → base ≤ g.block ∧ g.block < wr.heap.size ∧ some g.block ≠ v.ownBlock
theorem EnsOwn.nil (wr : World) (base : Nat) : EnsOwn wr base (.slice none 0 0) [] := ⟨World.ownsRow_nil _ _ _ _, fun x h => by cases h⟩
theorem EnsOwn.below {w w' : World} {base : Nat} {v : Value} {xs : List En} (h : EnsOwn w base v xs) (hb : Below w.heap.size w w') : EnsOwn w' base v xs :=
  ⟨owns_below h.own hb, fun x hx => ⟨(h.row x hx).1.below hb, (h.row x hx).2.1, fun g hg => by have := (h.row x hx).2.2 g hg; exact ⟨this.1, Nat.lt_of_lt_of_le this.2.1 hb.size, this.2.2⟩⟩⟩
theorem at_grown {w w' : World} {row : Option Nat} {A : Option Addr} {l : List Int} (h : At 1 Zc w A l) (hg : w.grownBy w' row) (hne : ∀ g, A = some g → some g.block ≠ row) : At 1 Zc w' A l := fun k z hz => by
  obtain ⟨b, o, hA, hlt, hc⟩ := h k z hz
  refine ⟨b, o, hA, Nat.lt_of_lt_of_le hlt hg.size, fun j u hu => ?_⟩
  rw [← hc j u hu]
  exact World.cell?_of_block (a := ⟨b, o + k * 1 + j, none⟩) (hg.block b hlt (hne _ hA))
theorem EnsOwn.ensAt {w : World} {base : Nat} {A : Option Addr} {n c : Nat} {xs : List En} (h : EnsOwn w base (.slice A n c) xs) : EnsAt w A xs :=
  ⟨by
    obtain ⟨A', c', e, h1⟩ := at_of_owns (cs := En.cs) (sz := 3) (fun _ => rfl) h.own
    cases e
    exact h1, fun x hx => (h.row x hx).1⟩
/-- One more, behind an append. -/
theorem EnsOwn.push {w1 w3 : World} {base : Nat} {v v' : Value} {xs : List En} (h : EnsOwn w1 base v xs) {x : En} (hat : At 1 Zc w1 x.A x.co) (hnil : x.A = none → x.c = 0) (hbl : ∀ g, x.A = some g → base ≤ g.block ∧ g.block < w1.heap.size ∧ some g.block ≠ v.ownBlock)
    (hg : w1.grownBy w3 v.ownBlock) (ho : w3.ownsRow base 73 3 v' (xs.length + 1) (xs.flatMap En.cs ++ En.cs x)) (hor : v'.ownBlock = v.ownBlock ∨ v'.ownBlock = some w1.heap.size) : EnsOwn w3 base v' (xs ++ [x]) := by
  have hne : ∀ k, k < w1.heap.size → some k ≠ v.ownBlock → some k ≠ v'.ownBlock := fun k hk hk2 e => by
    rcases hor with h | h
    · exact hk2 (e.trans h)
    · rw [h] at e
      cases e
      omega
  refine ⟨by rw [List.length_append, List.flatMap_append]; simpa using ho, fun y hy => ?_⟩
  have key : ∀ y : En, At 1 Zc w1 y.A y.co → (y.A = none → y.c = 0) → (∀ g, y.A = some g → base ≤ g.block ∧ g.block < w1.heap.size ∧ some g.block ≠ v.ownBlock) → At 1 Zc w3 y.A y.co ∧ (y.A = none → y.c = 0) ∧ ∀ g, y.A = some g → base ≤ g.block ∧ g.block < w3.heap.size ∧ some g.block ≠ v'.ownBlock := fun y h1 h2 h3 =>
    ⟨at_grown h1 hg fun g e => (h3 g e).2.2, h2, fun g e => ⟨(h3 g e).1, Nat.lt_of_lt_of_le (h3 g e).2.1 hg.size, hne _ (h3 g e).2.1 (h3 g e).2.2⟩⟩
  rcases List.mem_append.1 hy with hy | hy
  · obtain ⟨r1, r2, r3⟩ := h.row y hy
    exact key y r1 r2 r3
  · rw [List.mem_singleton] at hy
    subst hy
    exact key y hat hnil hbl
theorem at_kept {α : Type} {cs : α → List Value} {sz : Nat} {w w' : World} {A : Option Addr} {l : List α} (h : At sz cs w A l) (hs : w.heap.size ≤ w'.heap.size) (hk : ∀ g, A = some g → w'.heap[g.block]? = w.heap[g.block]?) : At sz cs w' A l := fun k z hz => by
  obtain ⟨b, o, hA, hlt, hc⟩ := h k z hz
  refine ⟨b, o, hA, Nat.lt_of_lt_of_le hlt hs, fun j u hu => ?_⟩
  rw [← hc j u hu]
  exact World.cell?_of_block (a := ⟨b, o + k * sz + j, none⟩) (hk ⟨b, o, none⟩ hA)
/-- A block that is none of the list's own is written. -/
theorem EnsOwn.other {w w' : World} {base k : Nat} {v : Value} {xs : List En} (h : EnsOwn w base v xs) (hk : k < base) (ho : OnlyB k w w') (hs : w.heap.size ≤ w'.heap.size) : EnsOwn w' base v xs :=
  ⟨owns_kept h.own fun g e => ho.other g (by have := (h.own.lt g e).1; omega), fun x hx => ⟨at_kept (h.row x hx).1 hs fun g e => ho.other g.block (by have := ((h.row x hx).2.2 g e).1; omega), (h.row x hx).2.1, fun g e => ⟨((h.row x hx).2.2 g e).1, Nat.lt_of_lt_of_le ((h.row x hx).2.2 g e).2.1 hs, ((h.row x hx).2.2 g e).2.2⟩⟩⟩
theorem EnsOwn.base {w : World} {base base' : Nat} {v : Value} {xs : List En} (h : EnsOwn w base' v xs) (hb : base ≤ base') : EnsOwn w base v xs :=
  ⟨owns_base h.own hb, fun x hx => ⟨(h.row x hx).1, (h.row x hx).2.1, fun g e => ⟨Nat.le_trans hb ((h.row x hx).2.2 g e).1, ((h.row x hx).2.2 g e).2⟩⟩⟩
theorem own_nil {w : World} {base : Nat} {e : TypeId} {size n c : Nat} {A : Option Addr} {xs : List Value} (h : w.ownsRow base e size (.slice A n c) n xs) : A = none → c = 0 := by
  rintro rfl
  rcases h.2 with ⟨h, -⟩ | ⟨g, cap, cur, h1, -⟩
  · cases h; rfl
  · cases h1
theorem own_at {w : World} {base n c : Nat} {e : TypeId} {A : Option Addr} {l : List Int} (h : w.ownsRow base e 1 (.slice A n c) n (l.flatMap Zc)) (hn : l.length = n) : At 1 Zc w A l := by
  subst hn
  obtain ⟨A', c', e', h1⟩ := at_of_owns (cs := Zc) (sz := 1) (fun _ => rfl) h
  cases e'
  exact h1
theorem setCell_size (w : World) (a : Addr) (u : Value) : (w.setCell a u).heap.size = w.heap.size := by simp
section
variable {P : Program}
theorem exec_append_lie {f : Operand → Value} {o : Oper} {x : World} (s y : Operand) (t e : TypeId) (i : TypeInfo) (z0 v : Value) (bytes base n b sz : Nat) (xs us : List Value) (tb : TypeId)
    (ho : o.op = .call { callee := .builtin .append, args := #[s, y], argTypes := #[t, t] }) (hs : f s = v) (hy : f y = .slice (some ⟨b, 0, none⟩) 1 1)
    (ht : P.underlying t = some (.slice e)) (hi : P.info? e = some i) (hz : i.zero = some z0) (hsize : i.size = sz) (hby : i.bytes = bytes) (hzs : z0.cells.size = sz) (hbb : bytes ≤ 1000) (hsz : 0 < sz) (hus : us.length = sz)
    (hown : x.ownsRow base e sz v n xs) (hb : x.heap[b]? = some (.cells us.toArray tb (0, 0))) (h1 : ∀ u ∈ us, u.oneCell' = true) (h63 : n + 1 ≤ 1000) (hbase : base ≤ x.heap.size) :
    ∃ v' x', (execOp f o).run P x = .ok (.value v') x' ∧ x'.ownsRow base e sz v' (n + 1) (xs ++ us) ∧ x.grownBy x' v.ownBlock ∧ (v'.ownBlock = v.ownBlock ∨ v'.ownBlock = some x.heap.size) := by
  have hbt : (n + 1) * bytes ≤ 1000 * 1000 := Nat.mul_le_mul h63 hbb
  obtain ⟨g, cap, x', r1, r2, r3, r4, r5⟩ := run_append_lies (P := P) x t o.type base e i z0 sz bytes ht hi hz hsize hby hzs hsz v n xs hown ⟨b, 0, none⟩ 1 1 us (by omega) (fun j v' hj => World.news_of_block hb j v' hj) h1 (by decide) (by unfold maxLen; omega) (by omega) hbase _ rfl
  refine ⟨_, x', ?_, r2, r3, ?_⟩
  · unfold execOp
    simp only [ho, resolve, invoke, builtin, Sem.run_bind, Sem.run_pure, Result.andThen_ok, List.map_toArray, List.map_cons, List.map_nil, hs, hy, r1]
  · rcases r4 with h | h
    · exact .inl h.symm
    · subst h; exact .inr rfl
theorem wpList_append_lie {ops : Array Oper} {rest : List Oper} {o : Oper} {a : Act} {Q : Exit → Act → World → Prop} {x : World} (hgd : o.guard = none) (s y : Operand) (t e : TypeId) (i : TypeInfo) (z0 v : Value) (bytes base n b sz : Nat) (xs us : List Value) (tb : TypeId)
    (ho : o.op = .call { callee := .builtin .append, args := #[s, y], argTypes := #[t, t] }) (hs : a.eval s = v) (hy : a.eval y = .slice (some ⟨b, 0, none⟩) 1 1)
    (ht : P.underlying t = some (.slice e)) (hi : P.info? e = some i) (hz : i.zero = some z0) (hsize : i.size = sz) (hby : i.bytes = bytes) (hzs : z0.cells.size = sz) (hbb : bytes ≤ 1000) (hsz : 0 < sz) (hus : us.length = sz)
    (hown : x.ownsRow base e sz v n xs) (hb : x.heap[b]? = some (.cells us.toArray tb (0, 0))) (h1 : ∀ u ∈ us, u.oneCell' = true) (h63 : n + 1 ≤ 1000) (hbase : base ≤ x.heap.size)
    (h : ∀ v' x', x'.ownsRow base e sz v' (n + 1) (xs ++ us) → x.grownBy x' v.ownBlock → (v'.ownBlock = v.ownBlock ∨ v'.ownBlock = some x.heap.size) → wpList P ops Q rest (a.put o.dst v') x') : wpList P ops Q (o :: rest) a x := by
  obtain ⟨v', x', r1, r2, r3, r4⟩ := exec_append_lie s y t e i z0 v bytes base n b sz xs us tb ho hs hy ht hi hz hsize hby hzs hbb hsz hus hown hb h1 h63 hbase
  refine wpList_plain hgd fun K hK => ?_
  unfold Oper.wp
  rw [r1]
  exact hK _ _ (h v' x' r2 r3 r4)
end
end Go.Proofs
