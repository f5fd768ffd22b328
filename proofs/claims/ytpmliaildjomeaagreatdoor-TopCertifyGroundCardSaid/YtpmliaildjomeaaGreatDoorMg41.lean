import Derived.Test.YtpmliaildjomeaaGreatDoorMg40
set_option linter.unusedSimpArgs false
set_option linter.unusedVariables false
namespace Go.Proofs
open Go.RowKit
set_option linter.unusedVariables false
/-! TopCertifyGround: where a certificate is issued. -/
set_option maxRecDepth 100000 in
set_option maxHeartbeats 16000000 in
theorem ground_mean (pA eA : Option Addr) (pc ec pn en : Nat) (ps : List Pa) (es : List En) (ag : Int) (w : World) (hB : BookAt w pA pc ps eA ec es) (hpn : ps.length = pn) (hen : es.length = en) (ht : Tabs w) (hF : FewR ps es) (hR : BookR ps es) (hask0 : askE 0 ag = 0) (v den lev : Int) (Wt : List Int) (hC : Cert ps es 0 0 v den lev Wt)
    (hIs0 : ∃ m d p, solvedL ps.length (exs es) (worthL ps 0 0) = some (m, d, p) ∧ v = issLev 0 (dotL (worthL ps 0 0) m) d ∧ den = p.den ∧ lev = p.lev ∧ Wt = p.W) :
    Calls Tryz.prog 3 #[.agg #[.slice pA pn pc, .slice eA en ec], .agg #[.int .i64 0, .int .i64 ag]] w fun e w' => e = .returned (.bool true) ∧ Below w.heap.size w w' := by
  have hask : askE 0 0 = 0 := askE_zero.2 ⟨(askE_zero.1 hask0).1, by have := (askE_zero.1 hask0).2; omega⟩
  have hn1 := hR.n1
  have he8 : en ≤ 8 := by rw [← hen]; exact hR.e8
  have hp5 : pn ≤ 5 := by rw [← hpn]; exact hR.n5
  have hCe := Lib.hid fun W (hb : Below w.heap.size w W) => certified_any W (ht.below hb)
  have hFe := Lib.hid fun W (hb : Below w.heap.size w W) => (few_any pA eA pc ec pn en ps es W (hB.below hb) hpn hen).mono (R' := fun e w' => (e = .returned (.bool false) ∨ e = .returned (.bool true)) ∧ Below W.heap.size W w') fun e w' h => ⟨by
    obtain ⟨r, rfl, hr⟩ := h.1
    cases r with
    | false => exact .inl rfl
    | true => exact .inr rfl, h.2⟩
  have hAs := Lib.hid fun W => refAsk_any 0 ag W
  have hBk := Lib.hid fun W (hb : Below w.heap.size w W) => refBook_any pA eA pc ec pn en ps es W (hB.below hb) hF.fewB hpn hen
  have hCp := Lib.hid fun W (hb : Below w.heap.size w W) => c_copy pA eA pc ec pn en ps es W (hB.below hb) hF.fewB hpn hen (by omega)
  have hIs := Lib.hid fun W A c A2 c2 es2 (hW : CopyAt W A c ps A2 c2 es es2) => (show Calls Tryz.prog 8 #[.agg #[.slice A pn c, .slice A2 en c2], .agg #[.int .i64 0, .int .i64 0], .string (bs oldS)] W fun e w' => (∃ A c, e = .returned (.tuple #[.agg #[.string (bs oldS), .int .i64 0, .int .i64 0, .int .i64 v, .int .i64 den, .int .i64 lev, .slice A en c], .int .i64 0]) ∧ w'.ownsRow W.heap.size 3 1 (.slice A en c) en (Wt.map (Value.int .i64))) ∧ Below W.heap.size W w' from by
    obtain ⟨m, d, p, h1, rfl, rfl, rfl, rfl⟩ := hIs0
    have := c_issue A A2 c c2 pn en ps es es2 0 0 W hW hF.fewB hR hask hpn hen
    rw [h1] at this
    exact this)
  clear hIs0
  have hWn : Wt.length = en := by rw [hC.wr.len, hen]
  have hnum := hC.nums hask hR.e8
  go_enter Tryz.func3, Tryz.ntmps3
  have hF' := Lib.hid hF
  have hR' := Lib.hid hR
  have hB' := Lib.hid hB
  have hC' := Lib.hid hC
  have ht' := Lib.hid ht
  have hask' := Lib.hid hask
  have hpn' := Lib.hid hpn
  have hen' := Lib.hid hen
  have hWn' := Lib.hid hWn
  have hnum' := Lib.hid hnum
  clear hF hR hB hC ht hask0 hask hpn hen hWn hnum hn1
  go_wp2_with (first
    | (go_at_call 4; refine (hCe.out _ (by go_grown)).mono ?_; rintro e w1 ⟨rfl, hb1⟩; (have M0 := bk_keep hb1 (by (repeat (first | assumption | (refine bk_new _ _ ?_; (simp; done)) | refine bk_drew ?_ | refine bk_alloc ?_ _ | refine bk_set ?_ (by simp <;> omega) _)) : ((w.alloc (.cells #[.slice pA pn pc, .slice eA en ec] 25 (0, 0))).alloc (.cells #[.int .i64 0, .int .i64 ag] 27 (0, 0))).heap[w.heap.size]? = some (.cells #[.slice pA pn pc, .slice eA en ec] 25 (0, 0)))); (have M1 := bk_keep hb1 (by (repeat (first | assumption | (refine bk_new _ _ ?_; (simp; done)) | refine bk_drew ?_ | refine bk_alloc ?_ _ | refine bk_set ?_ (by simp <;> omega) _)) : ((w.alloc (.cells #[.slice pA pn pc, .slice eA en ec] 25 (0, 0))).alloc (.cells #[.int .i64 0, .int .i64 ag] 27 (0, 0))).heap[w.heap.size + 1]? = some (.cells #[.int .i64 0, .int .i64 ag] 27 (0, 0)))); (have hbw : Below w.heap.size w w1 := via (by go_grown) hb1); (have D0 := bk2 M0); (have D1 := bk2 M1))
    | (go_at_call 5; refine (hFe.out _ hbw).mono ?_; rintro e w2 ⟨hr, hb2⟩; (have M0 := bk_keep hb2 M0); (have M1 := bk_keep hb2 M1); (have hbw := via hbw hb2); clear D0 D1; (have D0 := bk2 M0); (have D1 := bk2 M1); rcases hr with rfl | rfl)
    | (go_at_call 6; refine (hAs.out _).mono ?_; rintro e w3 ⟨⟨E, rfl, hE⟩, hb3⟩; (have M0 := bk_keep hb3 M0); (have M1 := bk_keep hb3 M1); (have hbw := via hbw hb3); clear D0 D1; (have D0 := bk2 M0); (have D1 := bk2 M1); clear hE)
    | (go_at_call 7; refine (hBk.out _ hbw).mono ?_; rintro e w4 ⟨⟨n2, E2, rfl, hE2⟩, hb4⟩; (have M0 := bk_keep hb4 M0); (have M1 := bk_keep hb4 M1); (have hbw := via hbw hb4); clear D0 D1; (have D0 := bk2 M0); (have D1 := bk2 M1); clear hE2))
  · go_ret
    exact ⟨rfl, by go_grown⟩
  · go_ret
    exact ⟨rfl, by go_grown⟩
  · go_ret
    exact ⟨rfl, by go_grown⟩
  refine wp_world ?_
  intro x hx
  have X0 : x.heap[w.heap.size]? = some (.cells #[.slice pA pn pc, .slice eA en ec] 25 (0, 0)) := by rw [hx]; first | exact M0 | exact bk_set M0 (by simp) _
  have X1 : x.heap[w.heap.size + 1]? = some (.cells #[.int .i64 0, .int .i64 0] 27 (0, 0)) := by rw [hx]; first | exact M1 | exact bk_here M1 _ rfl
  have hbx : Below w.heap.size w x := by rw [hx]; go_grown
  clear hx M0 M1 D0 D1 hbw hFe hAs hBk hCe
  refine wp_region_any (by kernel_rfl) ?_
  apply any_ccs w 1 3 7 8 (fun j g => if j = 1 then .agg #[.slice g.a1 pn g.c1, .slice g.a2 en g.c2] else if j = 3 then .tuple #[.agg #[.string (bs oldS), .int .i64 0, .int .i64 0, .int .i64 v, .int .i64 den, .int .i64 lev, .slice g.a1 en g.c1], .int .i64 0] else .pointer (some ⟨g.b, 0, none⟩))
    (fun h y => ∃ es2, CopyAt y h.a1 h.c1 ps h.a2 h.c2 es es2) 3 en (Wt.map (Value.int .i64)) (.cells #[.string (ByteArray.mk #[]), .int .i64 0, .int .i64 0, .int .i64 0, .int .i64 0, .int .i64 0, .slice none 0 0] 37 (0, 0)) (fun h => .cells #[.string (bs oldS), .int .i64 0, .int .i64 0, .int .i64 v, .int .i64 den, .int .i64 lev, .slice h.a1 en h.c1] 37 (0, 0))
  case hB => kernel_rfl
  case hB' => intro g; kernel_rfl
  case hS => kernel_rfl
  case hN => kernel_rfl
  case hne => decide
  case hd =>
    intro L o ho h
    simp at ho
    subst ho
    simp [Region.binds] at h
    simp [h]
  case hD => kernel_rfl
  case hkd => intro o ho; simp at ho; subst ho; rfl
  case hm => intro h; rfl
  case hw => exact hbx
  case hR1 => rintro h y y' ⟨es2, h2⟩ hb; exact ⟨es2, h2.below hb⟩
  case hq =>
    intro g u hu hgc hbx hbX
    have D0 := bk2 (bk_keep hu X0)
    have D1 := bk2 (bk_keep hu X1)
    simp only [mixL, yieldsC, List.contains_cons, List.contains_nil, Nat.reduceAdd, Nat.reduceBEq, Nat.zero_add, Bool.or_false, Bool.or_true, Bool.false_or, Bool.true_or, Bool.false_eq_true, if_true, if_false, Bool.or_self, Nat.reduceEqDiff]
    repeat (go_big_quiet_step (fail))
    exact wpQuiet_nil rfl
  case hc =>
    intro o ho g y hy
    simp only [List.getElem?_cons_succ, List.getElem?_cons_zero, Option.some.injEq] at ho
    subst ho
    refine does_enter (by kernel_rfl) ((hCp.out y (via hbx hy)).mono ?_)
    rintro e y' ⟨⟨A, c, A2, c2, es2, rfl, h2⟩, hb⟩
    exact ⟨_, rfl, hb, { Gh.zero with a1 := A, c1 := c, a2 := A2, c2 := c2 }, rfl, es2, h2⟩
  case hqq =>
    rintro o ho g y hy ⟨es2, h2⟩
    simp only [List.getElem?_cons_succ, List.getElem?_cons_zero, Option.some.injEq] at ho
    subst ho
    refine does_enter (by kernel_rfl) ((hIs.out y _ _ _ _ es2 h2).mono ?_)
    rintro e y' ⟨⟨A, c, rfl, h3⟩, hb⟩
    exact ⟨_, rfl, hb, { Gh.zero with a1 := A, c1 := c }, rfl, h3⟩
  case hal => intro o ho; simp at ho; subst ho; intro a x; kernel_rfl
  case hst =>
    intro o ho g y hy hz
    simp only [List.getElem?_cons_succ, List.getElem?_cons_zero, Option.some.injEq] at ho
    subst ho
    exact exec_store_block (.tmp 7) (.tmp 50) 37 (by with_reducible rfl) (g 7).b [.string (bs oldS), .int .i64 0, .int .i64 0, .int .i64 v, .int .i64 den, .int .i64 lev, .slice (g 3).a1 en (g 3).c1] [.string (ByteArray.mk #[]), .int .i64 0, .int .i64 0, .int .i64 0, .int .i64 0, .int .i64 0, .slice none 0 0] 37 rfl rfl (by kernel_rfl) hz rfl (by simp [Value.oneCell'])
  case hind =>
    intro j hj
    simp only [List.mem_cons, List.not_mem_nil, or_false] at hj
    rcases hj with rfl | rfl | rfl | rfl <;> (intro g h; kernel_rfl)
  intro g y hy hbw hB7 Y7 hO7 hne7
  obtain ⟨A7, eA7⟩ : ∃ a, (g 3).a1 = a := ⟨_, rfl⟩
  obtain ⟨c7, ec7⟩ : ∃ a, (g 3).c1 = a := ⟨_, rfl⟩
  obtain ⟨B7, eB7⟩ : ∃ a, (g 7).b = a := ⟨_, rfl⟩
  rw [eA7, ec7] at hO7 hne7
  rw [eB7] at hB7 hne7
  have Y7 : y.heap[B7]? = some (.cells #[.string (bs oldS), .int .i64 0, .int .i64 0, .int .i64 v, .int .i64 den, .int .i64 lev, .slice A7 en c7] 37 (0, 0)) := by rw [← eA7, ← ec7, ← eB7]; exact Y7
  have hA7 := Lib.hid (own_ints hO7)
  have X0 := bk_keep hy X0
  have X1 := bk_keep hy X1
  rw [eA7, ec7, eB7]
  clear hO7 hne7 hIs eA7 ec7 eB7 hbx hy
  have D0 := bk2 X0
  have D1 := bk2 X1
  have D7 := bk7 Y7
  go_wp2_with (first
    | (go_at_call 12; refine (refCert_any (bs oldS) 0 0 v den lev A7 Wt c7 en _ hA7.out hWn'.out (by omega)).mono ?_; rintro e y1 ⟨⟨A8, c8, rfl, hO8⟩, hb1⟩; (have X0 := bk_keep hb1 X0); (have X1 := bk_keep hb1 X1); (have Y7 := bk_keep hb1 Y7); (have hbw := via hbw hb1); (have hA7 := Lib.hid (hA7.out.below hb1)); (have hA8 := Lib.hid (own_at hO8 hWn'.out)); clear hO8 hb1; clear D0 D1 D7; (have D0 := bk2 X0); (have D1 := bk2 X1); (have D7 := bk7 Y7))
    | (go_at_call 11; refine (formatCert_any oldS 0 0 v den lev A8 Wt en c8 _ (by decide) hnum'.out (by decide) hA8.out hWn'.out (ht'.out.below hbw)).mono ?_; rintro e y2 ⟨rfl, hb2⟩; (have X0 := bk_keep hb2 X0); (have X1 := bk_keep hb2 X1); (have Y7 := bk_keep hb2 Y7); (have hbw := via hbw hb2); (have hA7 := Lib.hid (hA7.out.below hb2)); clear hb2; clear D0 D1 D7; (have D0 := bk2 X0); (have D1 := bk2 X1); (have D7 := bk7 Y7))
    | (go_at_call 10; refine (c_parse 0 0 v den lev Wt en _ (by first | exact .inl ⟨rfl, rfl⟩ | exact .inr rfl) hnum'.out hWn'.out (ht'.out.below hbw)).mono ?_; rintro e y3 ⟨⟨A9, c9, rfl, hA9⟩, hb3⟩; (have X0 := bk_keep hb3 X0); (have X1 := bk_keep hb3 X1); (have Y7 := bk_keep hb3 Y7); (have hbw := via hbw hb3); (have hA7 := Lib.hid (hA7.out.below hb3)); (have hA9 := Lib.hid hA9); clear hb3; clear D0 D1 D7; (have D0 := bk2 X0); (have D1 := bk2 X1); (have D7 := bk7 Y7))
    | (go_at_call 9; refine (hCp.out _ (via hbw (new_below _ _))).mono ?_; rintro e y4 ⟨⟨A4, c4, A5, c5, es2, rfl, hCa⟩, hb4⟩; (have Y9 := bk_keep hb4 (bk_new y3 (.cells #[.string (bs oldS), .int .i64 0, .int .i64 0, .int .i64 v, .int .i64 den, .int .i64 lev, .slice A9 en c9] 37 (0, 0)) rfl)); (have hbb4 := via (new_below y3 (.cells #[.string (bs oldS), .int .i64 0, .int .i64 0, .int .i64 v, .int .i64 den, .int .i64 lev, .slice A9 en c9] 37 (0, 0))) hb4); (have X0 := bk_keep hbb4 X0); (have X1 := bk_keep hbb4 X1); (have Y7 := bk_keep hbb4 Y7); (have hbw := via hbw hbb4); (have hA7 := Lib.hid (hA7.out.below hbb4)); (have hA9 := Lib.hid (hA9.out.below hbb4)); (have hCa := Lib.hid hCa); clear hb4 hbb4; clear D0 D1 D7; (have D0 := bk2 X0); (have D1 := bk2 X1); (have D7 := bk7 Y7); (have D9 := bk7 Y9))
    | (go_at_call 13; refine (c_print A4 A5 c4 c5 pn en ps es es2 _ hCa.out hF'.out.fewB hR'.out hpn'.out hen'.out (ht'.out.below hbw)).mono ?_; rintro e y5 ⟨rfl, hb5⟩; (have Y9 := bk_keep hb5 Y9); (have X0 := bk_keep hb5 X0); (have X1 := bk_keep hb5 X1); (have Y7 := bk_keep hb5 Y7); (have hbw := via hbw hb5); (have hA7 := Lib.hid (hA7.out.below hb5)); (have hA9 := Lib.hid (hA9.out.below hb5)); clear hb5 hCa; clear D0 D1 D7; (have D0 := bk2 X0); (have D1 := bk2 X1); (have D7 := bk7 Y7); clear D9; (have D9 := bk7 Y9))
    | (go_at_call 14; refine (refEqCert_any (bs oldS) 0 0 v den lev A9 A7 Wt c9 c7 en _ hA9.out hA7.out hWn'.out (by omega)).mono ?_; rintro e y6 ⟨rfl, hb6⟩; (have Y9 := bk_keep hb6 Y9); (have X0 := bk_keep hb6 X0); (have X1 := bk_keep hb6 X1); (have Y7 := bk_keep hb6 Y7); (have hbw := via hbw hb6); (have hA9 := Lib.hid (hA9.out.below hb6)); clear hb6 hA7; clear D0 D1 D7; (have D0 := bk2 X0); (have D1 := bk2 X1); (have D7 := bk7 Y7); clear D9; (have D9 := bk7 Y9))
    | (go_at_call 15; refine (c_read pn en ps es _ hR'.out hpn'.out hen'.out (ht'.out.below hbw)).mono ?_; rintro e y7 ⟨⟨A10, c10, A11, c11, ys, rfl, hCy⟩, hb7⟩; (have Y9 := bk_keep hb7 Y9); (have X0 := bk_keep hb7 X0); (have X1 := bk_keep hb7 X1); (have Y7 := bk_keep hb7 Y7); (have hbw := via hbw hb7); (have hA9 := Lib.hid (hA9.out.below hb7)); (have hCy := Lib.hid hCy); clear hb7; clear D0 D1 D7; (have D0 := bk2 X0); (have D1 := bk2 X1); (have D7 := bk7 Y7); clear D9; (have D9 := bk7 Y9))
    | (go_at_call 16; refine (c_same A10 A11 pA eA c10 c11 pc ec pn en ps es ys _ (hCy.out.below (new_below _ _)) (hB'.out.below (via hbw (new_below _ _))) hF'.out.fewB hpn'.out hen'.out).mono ?_; rintro e y8 ⟨rfl, hb8⟩; (have Y13 := bk_keep hb8 (bk_new y7 (.cells #[.slice A10 pn c10, .slice A11 en c11] 25 (0, 0)) rfl)); (have hbb8 := via (new_below y7 (.cells #[.slice A10 pn c10, .slice A11 en c11] 25 (0, 0))) hb8); (have Y9 := bk_keep hbb8 Y9); (have X0 := bk_keep hbb8 X0); (have X1 := bk_keep hbb8 X1); (have Y7 := bk_keep hbb8 Y7); (have hbw := via hbw hbb8); (have hA9 := Lib.hid (hA9.out.below hbb8)); (have hCy := Lib.hid (hCy.out.below hbb8)); clear hb8 hbb8; clear D0 D1 D7; (have D0 := bk2 X0); (have D1 := bk2 X1); (have D7 := bk7 Y7); clear D9; (have D9 := bk7 Y9); (have D13 := bk2 Y13)))
  clear Y7 D7
  obtain ⟨S, hSe⟩ : ∃ S, hangsK Wt en = S := ⟨_, rfl⟩
  obtain ⟨sn, hsn⟩ : ∃ n, S.length = n := ⟨_, rfl⟩
  have hsl : sn ≤ en := by rw [← hsn, ← hSe]; exact hangsK_len _ _
  have hasc := Lib.hid (show Asc 0 en S by rw [← hSe]; exact hangsK_asc _ _)
  have hCc := Lib.hid fun W C c (hb : At 1 Zc W C Wt) => refCert_any (bs oldS) 0 0 v den lev C Wt c en W hb hWn'.out (by omega)
  have hHg := Lib.hid fun W C c (hb : Below y8.heap.size y8 W) (hA : At 1 Zc W C Wt) => c_hangs A10 A11 C c10 c11 c pn en ps es ys 0 0 v den lev Wt W (hCy.out.below hb) hF'.out.fewB hR'.out hask'.out hC'.out hA hpn'.out hen'.out
  rw [hSe, hsn] at hHg
  have hSe' := Lib.hid hSe
  have hsn' := Lib.hid hsn
  clear hSe hsn
  refine wp_region_any (by kernel_rfl) ?_
  apply any_cc w 2 3 (fun j g => if j = 2 then .agg #[.string (bs oldS), .int .i64 0, .int .i64 0, .int .i64 v, .int .i64 den, .int .i64 lev, .slice g.a1 en g.c1] else .tuple #[.slice g.a1 sn g.c1, .int .i64 0])
    (fun h y => At 1 Zc y h.a1 Wt) (fun h y => At 1 Zc y h.a1 (natZ S))
  case hB => kernel_rfl
  case hB' => intro g; kernel_rfl
  case hS => kernel_rfl
  case hN => kernel_rfl
  case hne => decide
  case hd =>
    intro L o ho h
    simp at ho
    subst ho
    simp [Region.binds] at h
    simp [h]
  case hw => exact hbw
  case hR1 => intro h y y' h2 hb; exact h2.below hb
  case hR2 => intro h y y' h2 hb; exact h2.below hb
  case hq =>
    intro g u hu hgc hbx hbX
    have D9 := bk7 (bk_keep hu Y9)
    have D13 := bk2 (bk_keep hu Y13)
    simp only [mixL, yieldsC, List.contains_cons, List.contains_nil, Nat.reduceAdd, Nat.reduceBEq, Nat.zero_add, Bool.or_false, Bool.or_true, Bool.false_or, Bool.true_or, Bool.false_eq_true, if_true, if_false, Bool.or_self, Nat.reduceEqDiff]
    repeat (go_big_quiet_step (fail))
    exact wpQuiet_nil rfl
  case hc =>
    intro o ho g y hy
    simp only [List.getElem?_cons_succ, List.getElem?_cons_zero, Option.some.injEq] at ho
    subst ho
    refine does_enter (by kernel_rfl) ((hCc.out y A9 c9 (hA9.out.below hy)).mono ?_)
    rintro e y' ⟨⟨A, c, rfl, h2⟩, hb⟩
    exact ⟨_, rfl, hb, { Gh.zero with a1 := A, c1 := c }, rfl, own_at h2 hWn'.out⟩
  case hqq =>
    intro o ho g y hy h2
    simp only [List.getElem?_cons_succ, List.getElem?_cons_zero, Option.some.injEq] at ho
    subst ho
    refine does_enter (by kernel_rfl) ((hHg.out y (g 2).a1 (g 2).c1 hy h2).mono ?_)
    rintro e y' ⟨⟨A, c, rfl, h3⟩, hb⟩
    exact ⟨_, rfl, hb, { Gh.zero with a1 := A, c1 := c }, rfl, own_ints h3⟩
  case hind =>
    intro j hj
    simp only [List.mem_cons, List.not_mem_nil, or_false] at hj
    rcases hj with rfl | rfl <;> (intro g h; kernel_rfl)
  intro g y10 hy hbw hA16
  obtain ⟨A16, eA16⟩ : ∃ a, (g 3).a1 = a := ⟨_, rfl⟩
  obtain ⟨c16, ec16⟩ : ∃ a, (g 3).c1 = a := ⟨_, rfl⟩
  obtain ⟨u2, eu2⟩ : ∃ a, (g 2).a1 = a := ⟨_, rfl⟩
  obtain ⟨v2, ev2⟩ : ∃ a, (g 2).c1 = a := ⟨_, rfl⟩
  rw [eA16] at hA16
  have hA16 := Lib.hid hA16
  have X0 := bk_keep hy X0
  have X1 := bk_keep hy X1
  have Y9 := bk_keep hy Y9
  have hA9 := Lib.hid (hA9.out.below hy)
  clear D0 D1 D9 D13 Y13 hCy hHg hy
  rw [eA16, ec16, eu2, ev2]
  clear eA16 ec16 eu2 ev2
  have D0 := bk2 X0
  have D1 := bk2 X1
  have D9 := bk7 Y9
  have hsI : ¬ (en : Int) < (sn : Int) := by omega
  go_wp2_with (first
    | (go_at_call 18; refine (refOnly_any pA eA A16 pc ec pn en c16 sn S _ hA16.out hsn'.out hasc.out (by omega) (by omega)).mono ?_; rintro e y11 ⟨rfl, hb11⟩; (have X0 := bk_keep hb11 X0); (have X1 := bk_keep hb11 X1); (have Y9 := bk_keep hb11 Y9); (have hbw := via hbw hb11); (have hA9 := Lib.hid (hA9.out.below hb11)); (have hA16 := Lib.hid (hA16.out.below hb11)); clear hb11 D0 D1 D9; (have D0 := bk2 X0); (have D1 := bk2 X1); (have D9 := bk7 Y9))
    | (go_at_call 12; refine (hCc.out _ A9 c9 hA9.out).mono ?_; rintro e y12 ⟨⟨A18, c18, rfl, hO18⟩, hb12⟩; clear hO18; (have X0 := bk_keep hb12 X0); (have X1 := bk_keep hb12 X1); (have Y9 := bk_keep hb12 Y9); (have hbw := via hbw hb12); (have hA9 := Lib.hid (hA9.out.below hb12)); (have hA16 := Lib.hid (hA16.out.below hb12)); clear hb12 D0 D1 D9; (have D0 := bk2 X0); (have D1 := bk2 X1); (have D9 := bk7 Y9)))
  have hA9w := Lib.hid hA9.out
  have hA16w := Lib.hid hA16.out
  have hVal := Lib.hid fun (j i : Nat) (hi : S[j]? = some i) => (show (S.take (j + 1)).map (fun i => Value.int .i64 (Wt.getD i 0)) = (S.take j).map (fun i => Value.int .i64 (Wt.getD i 0)) ++ [.int .i64 (Wt.getD i 0)] by rw [List.take_add_one, hi]; simp)
  obtain ⟨i0, hi0, hz0, hz1, hz2⟩ := info_parts Tryz.info3
  clear hA9 hA16 hCc D0 D1 D9
  go_loopw [19] (fun i wr => ∃ j : Nat, ∃ vl : Value, j ≤ sn ∧ i = .int .i64 j ∧ wr.heap[y12.heap.size]? = some (.cells #[.string (bs oldS), .int .i64 0, .int .i64 0, .int .i64 v, .int .i64 den, .int .i64 lev, vl] 37 (0, 0)) ∧ Hid (wr.ownsRow (y12.heap.size + 1) 3 1 vl j ((S.take j).map fun i => Value.int .i64 (Wt.getD i 0))) ∧ Below y12.heap.size y12 wr) (fun i _ => sn - (intOf i).toNat)
  case atStart => exact ⟨0, .slice none 0 0, Nat.zero_le _, rfl, bk_new y12 (.cells #[.string (bs oldS), .int .i64 0, .int .i64 0, .int .i64 v, .int .i64 den, .int .i64 lev, (.slice none 0 0)] 37 (0, 0)) rfl, Lib.hid (World.ownsRow_nil _ _ _ _), by go_grown⟩
  case round =>
    obtain ⟨j, vl, hj, rfl, Y18, hown, hb12⟩ := hrel
    obtain ⟨A5, c5, rfl⟩ := own_slice hown.out
    have hbw' := via hbw hb12
    have Z0 := bk_keep hb12 X0
    have Z1 := bk_keep hb12 X1
    have Z9 := bk_keep hb12 Y9
    have D0 := bk2 Z0
    have D1 := bk2 Z1
    have D9 := bk7 Z9
    have D18 := bk7 Y18
    by_cases hlt : j < sn
    · have hjI : (j : Int) < (sn : Int) := by omega
      obtain ⟨i, hi2⟩ : ∃ i, S[j]? = some i := ⟨_, List.getElem?_eq_getElem (by rw [hsn'.out]; exact hlt)⟩
      have hie : i < en := (hasc.out.lt i (List.mem_of_getElem? hi2)).2
      obtain ⟨zv, hzv⟩ : ∃ z, Wt.getD i 0 = z := ⟨_, rfl⟩
      have hv2 := Lib.hid (hVal.out j i hi2)
      rw [hzv] at hv2
      have hiv : (natZ S).getD j 0 = (i : Int) := by rw [natZ, List.getD_eq_getElem?_getD, List.getElem?_map, hi2]; rfl
      have hc4 := Lib.hid fun u (hb : Below y12.heap.size y12 u) => (show ∃ b o, A16 = some ⟨b, o, none⟩ ∧ b < u.heap.size ∧ u.cell? ⟨b, o + j, none⟩ = some (.int .i64 (i : Int)) from by
        have := zc_cell (hA16w.out.below hb) (k := j) (by rw [natZ, List.length_map, hsn'.out]; exact hlt)
        rwa [hiv] at this)
      have hc5 := Lib.hid fun u (hb : Below y12.heap.size y12 u) => (show ∃ b o, A9 = some ⟨b, o, none⟩ ∧ b < u.heap.size ∧ u.cell? ⟨b, o + i, none⟩ = some (.int .i64 zv) from by
        have := zc_cell (hA9w.out.below hb) (k := i) (by rw [hWn'.out]; exact hie)
        rwa [hzv] at this)
      clear hiv
      obtain ⟨b16, o16, eA16, -, -⟩ := hc4.out _ hb12
      obtain ⟨b9, o9, eA9, -, -⟩ := hc5.out _ hb12
      subst eA16
      subst eA9
      have hiI : (i : Int) < (en : Int) := by omega
      have hiI0 : (0 : Int) ≤ (i : Int) := by omega
      have hjI0 : (0 : Int) ≤ (j : Int) := by omega
      clear hi2 hzv
      go_wp2
      refine wp_region_any (by kernel_rfl) ?_
      refine any_lastR 16 _ rfl rfl (by kernel_rfl) (by kernel_rfl) (by kernel_rfl) (by kernel_rfl) ?_
      simp only [List.take_succ_cons, List.take_zero]
      apply any_push y12 12 13 j 1 (.cells #[.int .i64 zv] 3 (0, 0)) [.int .i64 zv] (y12.heap.size + 1) 3 (.slice A5 j c5) ((S.take j).map fun i => Value.int .i64 (Wt.getD i 0))
      case hB => kernel_rfl
      case hB' => intro g; kernel_rfl
      case hS => kernel_rfl
      case hN => kernel_rfl
      case hne => decide
      case hd =>
        intro L o ho h
        simp at ho
        subst ho
        simp [Region.binds] at h
        simp [h]
      case hw => exact hb12
      case hv0 => exact fun r e => by have := (hown.out.lt r e).1; omega
      case hown => exact hown.out
      case hq =>
        intro g u hu hgc hbx hbX
        have N0 := bk2 (bk_kc hu Z0 (not_own hown.out (by have := bk_size X0; omega)))
        have N9 := bk7 (bk_kc hu Z9 (not_own hown.out (by have := bk_size Y9; omega)))
        have N18 := bk7 (bk_kc hu Y18 (not_own hown.out (by omega)))
        obtain ⟨b', o', eA, hbb', hc'⟩ := hc4.out u hu.1
        cases eA
        obtain ⟨b', o', eA, hbb2', hc2'⟩ := hc5.out u hu.1
        cases eA
        simp only [mixL, mkPu, yieldsC, List.contains_cons, List.contains_nil, Nat.reduceAdd, Nat.reduceBEq, Nat.zero_add, Bool.or_false, Bool.or_true, Bool.false_or, Bool.true_or, Bool.false_eq_true, if_true, if_false, Bool.or_self, Nat.reduceEqDiff]
        repeat (go_big_quiet_step (fail))
        exact wpQuiet_nil rfl
      case hal =>
        intro o' ho g y hC
        simp only [List.getElem?_cons_succ, List.getElem?_cons_zero, Option.some.injEq] at ho
        subst ho
        kernel_rfl
      case hap =>
        intro o' ho g y hC hown2 hz
        simp only [List.getElem?_cons_succ, List.getElem?_cons_zero, Option.some.injEq] at ho
        subst ho
        exact exec_append_cells (.tmp 144) (.tmp 154) 33 3 i0 _ _ 8 (y12.heap.size + 1) j (g 12).b 1 _ [.int .i64 zv] 3 rfl rfl rfl Tryz.underlying33 hi0 hz0 hz1 hz2 rfl (by decide) (by decide) rfl hown2 hz (by simp [Value.oneCell']) (by omega) (by have := hC.2.1; have := bk_size Y18; omega)
      case hind =>
        intro j hj
        simp only [List.mem_cons, List.not_mem_nil, or_false] at hj
        rcases hj with rfl | rfl <;> (intro g h; kernel_rfl)
      intro g u hu hown3
      obtain ⟨A6, eA6⟩ : ∃ a, (g 13).a1 = a := ⟨_, rfl⟩
      obtain ⟨c6, ec6⟩ : ∃ a, (g 13).c1 = a := ⟨_, rfl⟩
      obtain ⟨b6, eb6⟩ : ∃ a, (g 12).b = a := ⟨_, rfl⟩
      rw [eA6, ec6] at hown3
      have N18 := bk_kc hu Y18 (not_own hown.out (by omega))
      obtain ⟨-, -, -, -, -, -, q6, -, -, -, -, -, -, f6, -⟩ := bk7 N18
      have ho4 := Lib.hid (show u.ownsRow (y12.heap.size + 1) 3 1 (.slice A6 (j + 1) c6) (j + 1) ((S.take (j + 1)).map fun i => Value.int .i64 (Wt.getD i 0)) by rw [hv2.out]; exact hown3)
      rw [eA6, ec6, eb6]
      refine oper_skip (x := u.setCell ⟨y12.heap.size, 6, none⟩ (.slice A6 (j + 1) c6)) (run_store_slice rfl (by kernel_rfl) rfl rfl q6 f6) ?_
      have ho5 := Lib.hid (owns_kept ho4.out fun r e => ((OnlyB.refl y12.heap.size u).set 6 (.slice A6 (j + 1) c6)).other r (by have := (ho4.out.lt r e).1; omega))
      have P18 := bk_here (o := 6) N18 (.slice A6 (j + 1) c6) rfl
      have hb5 : Below y12.heap.size y12 (u.setCell ⟨y12.heap.size, 6, none⟩ (.slice A6 (j + 1) c6)) := hu.1.trans (((OnlyB.refl y12.heap.size u).set 6 _).below _ (Nat.le_refl _))
      obtain ⟨W5, hW5⟩ : ∃ x, u.setCell ⟨y12.heap.size, 6, none⟩ (.slice A6 (j + 1) c6) = x := ⟨_, rfl⟩
      rw [hW5] at P18 hb5 ho5 ⊢
      clear hW5
      go_wp2
      go_roundw
      case rel => exact ⟨j + 1, _, by omega, by go_num, P18, ho5, hb5⟩
      case measure => first | (simp [intOf]; done) | (simp [intOf]; omega)
    · obtain rfl : sn = j := by omega
      have hall : S.take sn = S := by rw [← hsn'.out, List.take_length]
      have hA5 := Lib.hid (show At 1 Zc wr A5 (S.map fun i => Wt.getD i 0) from own_ints (by rw [List.map_map]; have := hown.out; rw [hall] at this; exact this))
      have hA16 := Lib.hid (hA16w.out.below hb12)
      clear hall hlt hVal hown hi0 hz0 hz1 hz2
      go_wp2_with (first
        | (go_at_call 9; refine (hCp.out _ hbw').mono ?_; rintro e z1 ⟨⟨A12, c12, A13, c13, es4, rfl, hCa⟩, hb⟩; (have hCa := Lib.hid hCa); (have Z0 := bk_keep hb Z0); (have Z1 := bk_keep hb Z1); (have Z9 := bk_keep hb Z9); (have Y18 := bk_keep hb Y18); (have hbw' := via hbw' hb); (have hA5 := Lib.hid (hA5.out.below hb)); (have hA16 := Lib.hid (hA16.out.below hb)); clear hb D0 D1 D9 D18; (have D0 := bk2 Z0); (have D1 := bk2 Z1); (have D9 := bk7 Z9); (have D18 := bk7 Y18))
        | (go_at_call 20; refine (refInts_any A16 (natZ S) c16 sn _ hA16.out (by rw [natZ, List.length_map]; exact hsn'.out) (by omega)).mono ?_; rintro e z2 ⟨⟨A20, c20, rfl, hO20⟩, hb⟩; (have hA20 := Lib.hid (own_at hO20 (by rw [natZ, List.length_map]; exact hsn'.out))); (have hCa := Lib.hid (hCa.out.below hb)); clear hO20; (have Z0 := bk_keep hb Z0); (have Z1 := bk_keep hb Z1); (have Z9 := bk_keep hb Z9); (have Y18 := bk_keep hb Y18); (have hbw' := via hbw' hb); (have hA5 := Lib.hid (hA5.out.below hb)); (have hA16 := Lib.hid (hA16.out.below hb)); clear hb D0 D1 D9 D18; (have D0 := bk2 Z0); (have D1 := bk2 Z1); (have D9 := bk7 Z9); (have D18 := bk7 Y18))
        | (go_at_call 19; refine (c_only A12 A13 A20 c12 c13 pn en c20 sn ps es es4 S _ hCa.out hF'.out.fewB hR'.out hpn'.out hen'.out hA20.out hsn'.out hasc.out).mono ?_; rintro e z3 ⟨⟨A14, c14, A15, c15, es5, rfl, hl5, hs5, hB5⟩, hb⟩; (have hl5 := Lib.hid hl5); (have hs5 := Lib.hid hs5); (have hB5 := Lib.hid hB5); clear hCa hA20; (have Z0 := bk_keep hb Z0); (have Z1 := bk_keep hb Z1); (have Z9 := bk_keep hb Z9); (have Y18 := bk_keep hb Y18); (have hbw' := via hbw' hb); (have hA5 := Lib.hid (hA5.out.below hb)); (have hA16 := Lib.hid (hA16.out.below hb)); clear hb D0 D1 D9 D18; (have D0 := bk2 Z0); (have D1 := bk2 Z1); (have D9 := bk7 Z9); (have D18 := bk7 Y18))
        | (go_at_call 21; refine (c_alone A14 A15 A5 c14 c15 c5 pn en sn ps es es5 0 0 v den lev Wt _ (hB5.out.below (new_below _ _)) (by rw [hSe'.out]; exact hs5.out) hl5.out hF'.out.fewB hR'.out hask'.out hC'.out (by rw [hSe'.out]; exact hA5.out.below (new_below _ _)) hpn'.out hen'.out (by rw [hSe'.out]; exact hsn'.out)).mono ?_; rintro e z4 ⟨rfl, hb⟩; (have hb := via (new_below _ _) hb); (have Z0 := bk_keep hb Z0); (have Z1 := bk_keep hb Z1); (have Z9 := bk_keep hb Z9); (have Y18 := bk_keep hb Y18); (have hbw' := via hbw' hb); (have hA5 := Lib.hid (hA5.out.below hb)); (have hA16 := Lib.hid (hA16.out.below hb)); clear hb D0 D1 D9 D18; (have D0 := bk2 Z0); (have D1 := bk2 Z1); (have D9 := bk7 Z9); (have D18 := bk7 Y18)))
      have hGr := Lib.hid fun W A c A2 c2 es2 (hW : CopyAt W A c ps A2 c2 es es2) => c_ground A A2 c c2 pn en ps es es2 0 0 v den lev Wt W hW hF'.out.fewB hR'.out hask'.out hC'.out hpn'.out hen'.out
      rw [hSe'.out, hsn'.out] at hGr
      refine wp_region_any (by kernel_rfl) ?_
      apply any_cc w 1 5 (fun j g => if j = 1 then .agg #[.slice g.a1 pn g.c1, .slice g.a2 en g.c2] else .tuple #[.slice g.a1 g.c2 g.c1, .int .i64 0])
        (fun h y => ∃ es2, CopyAt y h.a1 h.c1 ps h.a2 h.c2 es es2) (fun h y => h.c2 ≤ sn)
      case hB => kernel_rfl
      case hB' => intro g; kernel_rfl
      case hS => kernel_rfl
      case hN => kernel_rfl
      case hne => decide
      case hd =>
        intro L o ho h
        simp at ho
        subst ho
        simp [Region.binds] at h
        simp [h]
      case hw => exact hbw'
      case hR1 => rintro h y y' ⟨es2, h2⟩ hb; exact ⟨es2, h2.below hb⟩
      case hR2 => intro h y y' h2 hb; exact h2
      case hq =>
        intro g u hu hgc hbx hbX
        have N0 := bk2 (bk_keep hu Z0)
        have N1 := bk2 (bk_keep hu Z1)
        have N9 := bk7 (bk_keep hu Z9)
        simp only [mixL, yieldsC, List.contains_cons, List.contains_nil, Nat.reduceAdd, Nat.reduceBEq, Nat.zero_add, Bool.or_false, Bool.or_true, Bool.false_or, Bool.true_or, Bool.false_eq_true, if_true, if_false, Bool.or_self, Nat.reduceEqDiff]
        repeat (go_big_quiet_step (fail))
        exact wpQuiet_nil rfl
      case hc =>
        intro o ho g y hy
        simp only [List.getElem?_cons_succ, List.getElem?_cons_zero, Option.some.injEq] at ho
        subst ho
        refine does_enter (by kernel_rfl) ((hCp.out y (via hbw' hy)).mono ?_)
        rintro e y' ⟨⟨A, c, A2, c2, es2, rfl, h2⟩, hb⟩
        exact ⟨_, rfl, hb, { Gh.zero with a1 := A, c1 := c, a2 := A2, c2 := c2 }, rfl, es2, h2⟩
      case hqq =>
        rintro o ho g y hy ⟨es2, h2⟩
        simp only [List.getElem?_cons_succ, List.getElem?_cons_zero, Option.some.injEq] at ho
        subst ho
        refine does_enter (by kernel_rfl) ((hGr.out y _ _ _ _ es2 h2).mono ?_)
        rintro e y' ⟨⟨A, n, c, rfl, h3⟩, hb⟩
        exact ⟨_, rfl, hb, { Gh.zero with a1 := A, c1 := c, c2 := n }, rfl, h3⟩
      case hind =>
        intro j hj
        simp only [List.mem_cons, List.not_mem_nil, or_false] at hj
        rcases hj with rfl | rfl <;> (intro g h; kernel_rfl)
      intro g y hy hbw9 hle
      have hleI : ((g 5).c2 : Int) ≤ (sn : Int) := by omega
      go_wp2
      go_ret
      exact ⟨by simp [hleI], hbw9⟩
set_option maxRecDepth 100000 in
set_option maxHeartbeats 16000000 in
theorem ground_share (pA eA : Option Addr) (pc ec pn en : Nat) (ps : List Pa) (es : List En) (ag : Int) (w : World) (hB : BookAt w pA pc ps eA ec es) (hpn : ps.length = pn) (hen : es.length = en) (ht : Tabs w) (hF : FewR ps es) (hR : BookR ps es) (hask0 : askE 1 ag = 0) (v den lev : Int) (Wt : List Int) (hC : Cert ps es 1 ag v den lev Wt)
    (hIs0 : ∃ m d p, solvedL ps.length (exs es) (worthL ps 1 ag) = some (m, d, p) ∧ v = issLev 1 (dotL (worthL ps 1 ag) m) d ∧ den = p.den ∧ lev = p.lev ∧ Wt = p.W) :
    Calls Tryz.prog 3 #[.agg #[.slice pA pn pc, .slice eA en ec], .agg #[.int .i64 1, .int .i64 ag]] w fun e w' => e = .returned (.bool true) ∧ Below w.heap.size w w' := by
  have hask : askE 1 ag = 0 := askE_zero.2 ⟨(askE_zero.1 hask0).1, by have := (askE_zero.1 hask0).2; omega⟩
  have hn1 := hR.n1
  have he8 : en ≤ 8 := by rw [← hen]; exact hR.e8
  have hp5 : pn ≤ 5 := by rw [← hpn]; exact hR.n5
  have hCe := Lib.hid fun W (hb : Below w.heap.size w W) => certified_any W (ht.below hb)
  have hFe := Lib.hid fun W (hb : Below w.heap.size w W) => (few_any pA eA pc ec pn en ps es W (hB.below hb) hpn hen).mono (R' := fun e w' => (e = .returned (.bool false) ∨ e = .returned (.bool true)) ∧ Below W.heap.size W w') fun e w' h => ⟨by
    obtain ⟨r, rfl, hr⟩ := h.1
    cases r with
    | false => exact .inl rfl
    | true => exact .inr rfl, h.2⟩
  have hAs := Lib.hid fun W => refAsk_any 1 ag W
  have hBk := Lib.hid fun W (hb : Below w.heap.size w W) => refBook_any pA eA pc ec pn en ps es W (hB.below hb) hF.fewB hpn hen
  have hCp := Lib.hid fun W (hb : Below w.heap.size w W) => c_copy pA eA pc ec pn en ps es W (hB.below hb) hF.fewB hpn hen (by omega)
  have hIs := Lib.hid fun W A c A2 c2 es2 (hW : CopyAt W A c ps A2 c2 es es2) => (show Calls Tryz.prog 8 #[.agg #[.slice A pn c, .slice A2 en c2], .agg #[.int .i64 1, .int .i64 ag], .string (bs oldS)] W fun e w' => (∃ A c, e = .returned (.tuple #[.agg #[.string (bs oldS), .int .i64 1, .int .i64 ag, .int .i64 v, .int .i64 den, .int .i64 lev, .slice A en c], .int .i64 0]) ∧ w'.ownsRow W.heap.size 3 1 (.slice A en c) en (Wt.map (Value.int .i64))) ∧ Below W.heap.size W w' from by
    obtain ⟨m, d, p, h1, rfl, rfl, rfl, rfl⟩ := hIs0
    have := c_issue A A2 c c2 pn en ps es es2 1 ag W hW hF.fewB hR hask hpn hen
    rw [h1] at this
    exact this)
  clear hIs0
  have hWn : Wt.length = en := by rw [hC.wr.len, hen]
  have hnum := hC.nums hask hR.e8
  go_enter Tryz.func3, Tryz.ntmps3
  have hF' := Lib.hid hF
  have hR' := Lib.hid hR
  have hB' := Lib.hid hB
  have hC' := Lib.hid hC
  have ht' := Lib.hid ht
  have hask' := Lib.hid hask
  have hpn' := Lib.hid hpn
  have hen' := Lib.hid hen
  have hWn' := Lib.hid hWn
  have hnum' := Lib.hid hnum
  clear hF hR hB hC ht hask0 hask hpn hen hWn hnum hn1
  go_wp2_with (first
    | (go_at_call 4; refine (hCe.out _ (by go_grown)).mono ?_; rintro e w1 ⟨rfl, hb1⟩; (have M0 := bk_keep hb1 (by (repeat (first | assumption | (refine bk_new _ _ ?_; (simp; done)) | refine bk_drew ?_ | refine bk_alloc ?_ _ | refine bk_set ?_ (by simp <;> omega) _)) : ((w.alloc (.cells #[.slice pA pn pc, .slice eA en ec] 25 (0, 0))).alloc (.cells #[.int .i64 1, .int .i64 ag] 27 (0, 0))).heap[w.heap.size]? = some (.cells #[.slice pA pn pc, .slice eA en ec] 25 (0, 0)))); (have M1 := bk_keep hb1 (by (repeat (first | assumption | (refine bk_new _ _ ?_; (simp; done)) | refine bk_drew ?_ | refine bk_alloc ?_ _ | refine bk_set ?_ (by simp <;> omega) _)) : ((w.alloc (.cells #[.slice pA pn pc, .slice eA en ec] 25 (0, 0))).alloc (.cells #[.int .i64 1, .int .i64 ag] 27 (0, 0))).heap[w.heap.size + 1]? = some (.cells #[.int .i64 1, .int .i64 ag] 27 (0, 0)))); (have hbw : Below w.heap.size w w1 := via (by go_grown) hb1); (have D0 := bk2 M0); (have D1 := bk2 M1))
    | (go_at_call 5; refine (hFe.out _ hbw).mono ?_; rintro e w2 ⟨hr, hb2⟩; (have M0 := bk_keep hb2 M0); (have M1 := bk_keep hb2 M1); (have hbw := via hbw hb2); clear D0 D1; (have D0 := bk2 M0); (have D1 := bk2 M1); rcases hr with rfl | rfl)
    | (go_at_call 6; refine (hAs.out _).mono ?_; rintro e w3 ⟨⟨E, rfl, hE⟩, hb3⟩; (have M0 := bk_keep hb3 M0); (have M1 := bk_keep hb3 M1); (have hbw := via hbw hb3); clear D0 D1; (have D0 := bk2 M0); (have D1 := bk2 M1); clear hE)
    | (go_at_call 7; refine (hBk.out _ hbw).mono ?_; rintro e w4 ⟨⟨n2, E2, rfl, hE2⟩, hb4⟩; (have M0 := bk_keep hb4 M0); (have M1 := bk_keep hb4 M1); (have hbw := via hbw hb4); clear D0 D1; (have D0 := bk2 M0); (have D1 := bk2 M1); clear hE2))
  · go_ret
    exact ⟨rfl, by go_grown⟩
  · go_ret
    exact ⟨rfl, by go_grown⟩
  · go_ret
    exact ⟨rfl, by go_grown⟩
  refine wp_world ?_
  intro x hx
  have X0 : x.heap[w.heap.size]? = some (.cells #[.slice pA pn pc, .slice eA en ec] 25 (0, 0)) := by rw [hx]; first | exact M0 | exact bk_set M0 (by simp) _
  have X1 : x.heap[w.heap.size + 1]? = some (.cells #[.int .i64 1, .int .i64 ag] 27 (0, 0)) := by rw [hx]; first | exact M1 | exact bk_here M1 _ rfl
  have hbx : Below w.heap.size w x := by rw [hx]; go_grown
  clear hx M0 M1 D0 D1 hbw hFe hAs hBk hCe
  refine wp_region_any (by kernel_rfl) ?_
  apply any_ccs w 1 3 7 8 (fun j g => if j = 1 then .agg #[.slice g.a1 pn g.c1, .slice g.a2 en g.c2] else if j = 3 then .tuple #[.agg #[.string (bs oldS), .int .i64 1, .int .i64 ag, .int .i64 v, .int .i64 den, .int .i64 lev, .slice g.a1 en g.c1], .int .i64 0] else .pointer (some ⟨g.b, 0, none⟩))
    (fun h y => ∃ es2, CopyAt y h.a1 h.c1 ps h.a2 h.c2 es es2) 3 en (Wt.map (Value.int .i64)) (.cells #[.string (ByteArray.mk #[]), .int .i64 0, .int .i64 0, .int .i64 0, .int .i64 0, .int .i64 0, .slice none 0 0] 37 (0, 0)) (fun h => .cells #[.string (bs oldS), .int .i64 1, .int .i64 ag, .int .i64 v, .int .i64 den, .int .i64 lev, .slice h.a1 en h.c1] 37 (0, 0))
  case hB => kernel_rfl
  case hB' => intro g; kernel_rfl
  case hS => kernel_rfl
  case hN => kernel_rfl
  case hne => decide
  case hd =>
    intro L o ho h
    simp at ho
    subst ho
    simp [Region.binds] at h
    simp [h]
  case hD => kernel_rfl
  case hkd => intro o ho; simp at ho; subst ho; rfl
  case hm => intro h; rfl
  case hw => exact hbx
  case hR1 => rintro h y y' ⟨es2, h2⟩ hb; exact ⟨es2, h2.below hb⟩
  case hq =>
    intro g u hu hgc hbx hbX
    have D0 := bk2 (bk_keep hu X0)
    have D1 := bk2 (bk_keep hu X1)
    simp only [mixL, yieldsC, List.contains_cons, List.contains_nil, Nat.reduceAdd, Nat.reduceBEq, Nat.zero_add, Bool.or_false, Bool.or_true, Bool.false_or, Bool.true_or, Bool.false_eq_true, if_true, if_false, Bool.or_self, Nat.reduceEqDiff]
    repeat (go_big_quiet_step (fail))
    exact wpQuiet_nil rfl
  case hc =>
    intro o ho g y hy
    simp only [List.getElem?_cons_succ, List.getElem?_cons_zero, Option.some.injEq] at ho
    subst ho
    refine does_enter (by kernel_rfl) ((hCp.out y (via hbx hy)).mono ?_)
    rintro e y' ⟨⟨A, c, A2, c2, es2, rfl, h2⟩, hb⟩
    exact ⟨_, rfl, hb, { Gh.zero with a1 := A, c1 := c, a2 := A2, c2 := c2 }, rfl, es2, h2⟩
  case hqq =>
    rintro o ho g y hy ⟨es2, h2⟩
    simp only [List.getElem?_cons_succ, List.getElem?_cons_zero, Option.some.injEq] at ho
    subst ho
    refine does_enter (by kernel_rfl) ((hIs.out y _ _ _ _ es2 h2).mono ?_)
    rintro e y' ⟨⟨A, c, rfl, h3⟩, hb⟩
    exact ⟨_, rfl, hb, { Gh.zero with a1 := A, c1 := c }, rfl, h3⟩
  case hal => intro o ho; simp at ho; subst ho; intro a x; kernel_rfl
  case hst =>
    intro o ho g y hy hz
    simp only [List.getElem?_cons_succ, List.getElem?_cons_zero, Option.some.injEq] at ho
    subst ho
    exact exec_store_block (.tmp 7) (.tmp 50) 37 (by with_reducible rfl) (g 7).b [.string (bs oldS), .int .i64 1, .int .i64 ag, .int .i64 v, .int .i64 den, .int .i64 lev, .slice (g 3).a1 en (g 3).c1] [.string (ByteArray.mk #[]), .int .i64 0, .int .i64 0, .int .i64 0, .int .i64 0, .int .i64 0, .slice none 0 0] 37 rfl rfl (by kernel_rfl) hz rfl (by simp [Value.oneCell'])
  case hind =>
    intro j hj
    simp only [List.mem_cons, List.not_mem_nil, or_false] at hj
    rcases hj with rfl | rfl | rfl | rfl <;> (intro g h; kernel_rfl)
  intro g y hy hbw hB7 Y7 hO7 hne7
  obtain ⟨A7, eA7⟩ : ∃ a, (g 3).a1 = a := ⟨_, rfl⟩
  obtain ⟨c7, ec7⟩ : ∃ a, (g 3).c1 = a := ⟨_, rfl⟩
  obtain ⟨B7, eB7⟩ : ∃ a, (g 7).b = a := ⟨_, rfl⟩
  rw [eA7, ec7] at hO7 hne7
  rw [eB7] at hB7 hne7
  have Y7 : y.heap[B7]? = some (.cells #[.string (bs oldS), .int .i64 1, .int .i64 ag, .int .i64 v, .int .i64 den, .int .i64 lev, .slice A7 en c7] 37 (0, 0)) := by rw [← eA7, ← ec7, ← eB7]; exact Y7
  have hA7 := Lib.hid (own_ints hO7)
  have X0 := bk_keep hy X0
  have X1 := bk_keep hy X1
  rw [eA7, ec7, eB7]
  clear hO7 hne7 hIs eA7 ec7 eB7 hbx hy
  have D0 := bk2 X0
  have D1 := bk2 X1
  have D7 := bk7 Y7
  go_wp2_with (first
    | (go_at_call 12; refine (refCert_any (bs oldS) 1 ag v den lev A7 Wt c7 en _ hA7.out hWn'.out (by omega)).mono ?_; rintro e y1 ⟨⟨A8, c8, rfl, hO8⟩, hb1⟩; (have X0 := bk_keep hb1 X0); (have X1 := bk_keep hb1 X1); (have Y7 := bk_keep hb1 Y7); (have hbw := via hbw hb1); (have hA7 := Lib.hid (hA7.out.below hb1)); (have hA8 := Lib.hid (own_at hO8 hWn'.out)); clear hO8 hb1; clear D0 D1 D7; (have D0 := bk2 X0); (have D1 := bk2 X1); (have D7 := bk7 Y7))
    | (go_at_call 11; refine (formatCert_any oldS 1 ag v den lev A8 Wt en c8 _ (by decide) hnum'.out (by decide) hA8.out hWn'.out (ht'.out.below hbw)).mono ?_; rintro e y2 ⟨rfl, hb2⟩; (have X0 := bk_keep hb2 X0); (have X1 := bk_keep hb2 X1); (have Y7 := bk_keep hb2 Y7); (have hbw := via hbw hb2); (have hA7 := Lib.hid (hA7.out.below hb2)); clear hb2; clear D0 D1 D7; (have D0 := bk2 X0); (have D1 := bk2 X1); (have D7 := bk7 Y7))
    | (go_at_call 10; refine (c_parse 1 ag v den lev Wt en _ (by first | exact .inl ⟨rfl, rfl⟩ | exact .inr rfl) hnum'.out hWn'.out (ht'.out.below hbw)).mono ?_; rintro e y3 ⟨⟨A9, c9, rfl, hA9⟩, hb3⟩; (have X0 := bk_keep hb3 X0); (have X1 := bk_keep hb3 X1); (have Y7 := bk_keep hb3 Y7); (have hbw := via hbw hb3); (have hA7 := Lib.hid (hA7.out.below hb3)); (have hA9 := Lib.hid hA9); clear hb3; clear D0 D1 D7; (have D0 := bk2 X0); (have D1 := bk2 X1); (have D7 := bk7 Y7))
    | (go_at_call 9; refine (hCp.out _ (via hbw (new_below _ _))).mono ?_; rintro e y4 ⟨⟨A4, c4, A5, c5, es2, rfl, hCa⟩, hb4⟩; (have Y9 := bk_keep hb4 (bk_new y3 (.cells #[.string (bs oldS), .int .i64 1, .int .i64 ag, .int .i64 v, .int .i64 den, .int .i64 lev, .slice A9 en c9] 37 (0, 0)) rfl)); (have hbb4 := via (new_below y3 (.cells #[.string (bs oldS), .int .i64 1, .int .i64 ag, .int .i64 v, .int .i64 den, .int .i64 lev, .slice A9 en c9] 37 (0, 0))) hb4); (have X0 := bk_keep hbb4 X0); (have X1 := bk_keep hbb4 X1); (have Y7 := bk_keep hbb4 Y7); (have hbw := via hbw hbb4); (have hA7 := Lib.hid (hA7.out.below hbb4)); (have hA9 := Lib.hid (hA9.out.below hbb4)); (have hCa := Lib.hid hCa); clear hb4 hbb4; clear D0 D1 D7; (have D0 := bk2 X0); (have D1 := bk2 X1); (have D7 := bk7 Y7); (have D9 := bk7 Y9))
    | (go_at_call 13; refine (c_print A4 A5 c4 c5 pn en ps es es2 _ hCa.out hF'.out.fewB hR'.out hpn'.out hen'.out (ht'.out.below hbw)).mono ?_; rintro e y5 ⟨rfl, hb5⟩; (have Y9 := bk_keep hb5 Y9); (have X0 := bk_keep hb5 X0); (have X1 := bk_keep hb5 X1); (have Y7 := bk_keep hb5 Y7); (have hbw := via hbw hb5); (have hA7 := Lib.hid (hA7.out.below hb5)); (have hA9 := Lib.hid (hA9.out.below hb5)); clear hb5 hCa; clear D0 D1 D7; (have D0 := bk2 X0); (have D1 := bk2 X1); (have D7 := bk7 Y7); clear D9; (have D9 := bk7 Y9))
    | (go_at_call 14; refine (refEqCert_any (bs oldS) 1 ag v den lev A9 A7 Wt c9 c7 en _ hA9.out hA7.out hWn'.out (by omega)).mono ?_; rintro e y6 ⟨rfl, hb6⟩; (have Y9 := bk_keep hb6 Y9); (have X0 := bk_keep hb6 X0); (have X1 := bk_keep hb6 X1); (have Y7 := bk_keep hb6 Y7); (have hbw := via hbw hb6); (have hA9 := Lib.hid (hA9.out.below hb6)); clear hb6 hA7; clear D0 D1 D7; (have D0 := bk2 X0); (have D1 := bk2 X1); (have D7 := bk7 Y7); clear D9; (have D9 := bk7 Y9))
    | (go_at_call 15; refine (c_read pn en ps es _ hR'.out hpn'.out hen'.out (ht'.out.below hbw)).mono ?_; rintro e y7 ⟨⟨A10, c10, A11, c11, ys, rfl, hCy⟩, hb7⟩; (have Y9 := bk_keep hb7 Y9); (have X0 := bk_keep hb7 X0); (have X1 := bk_keep hb7 X1); (have Y7 := bk_keep hb7 Y7); (have hbw := via hbw hb7); (have hA9 := Lib.hid (hA9.out.below hb7)); (have hCy := Lib.hid hCy); clear hb7; clear D0 D1 D7; (have D0 := bk2 X0); (have D1 := bk2 X1); (have D7 := bk7 Y7); clear D9; (have D9 := bk7 Y9))
    | (go_at_call 16; refine (c_same A10 A11 pA eA c10 c11 pc ec pn en ps es ys _ (hCy.out.below (new_below _ _)) (hB'.out.below (via hbw (new_below _ _))) hF'.out.fewB hpn'.out hen'.out).mono ?_; rintro e y8 ⟨rfl, hb8⟩; (have Y13 := bk_keep hb8 (bk_new y7 (.cells #[.slice A10 pn c10, .slice A11 en c11] 25 (0, 0)) rfl)); (have hbb8 := via (new_below y7 (.cells #[.slice A10 pn c10, .slice A11 en c11] 25 (0, 0))) hb8); (have Y9 := bk_keep hbb8 Y9); (have X0 := bk_keep hbb8 X0); (have X1 := bk_keep hbb8 X1); (have Y7 := bk_keep hbb8 Y7); (have hbw := via hbw hbb8); (have hA9 := Lib.hid (hA9.out.below hbb8)); (have hCy := Lib.hid (hCy.out.below hbb8)); clear hb8 hbb8; clear D0 D1 D7; (have D0 := bk2 X0); (have D1 := bk2 X1); (have D7 := bk7 Y7); clear D9; (have D9 := bk7 Y9); (have D13 := bk2 Y13)))
  clear Y7 D7
  obtain ⟨S, hSe⟩ : ∃ S, hangsK Wt en = S := ⟨_, rfl⟩
  obtain ⟨sn, hsn⟩ : ∃ n, S.length = n := ⟨_, rfl⟩
  have hsl : sn ≤ en := by rw [← hsn, ← hSe]; exact hangsK_len _ _
  have hasc := Lib.hid (show Asc 0 en S by rw [← hSe]; exact hangsK_asc _ _)
  have hCc := Lib.hid fun W C c (hb : At 1 Zc W C Wt) => refCert_any (bs oldS) 1 ag v den lev C Wt c en W hb hWn'.out (by omega)
  have hHg := Lib.hid fun W C c (hb : Below y8.heap.size y8 W) (hA : At 1 Zc W C Wt) => c_hangs A10 A11 C c10 c11 c pn en ps es ys 1 ag v den lev Wt W (hCy.out.below hb) hF'.out.fewB hR'.out hask'.out hC'.out hA hpn'.out hen'.out
  rw [hSe, hsn] at hHg
  have hSe' := Lib.hid hSe
  have hsn' := Lib.hid hsn
  clear hSe hsn
  refine wp_region_any (by kernel_rfl) ?_
  apply any_cc w 2 3 (fun j g => if j = 2 then .agg #[.string (bs oldS), .int .i64 1, .int .i64 ag, .int .i64 v, .int .i64 den, .int .i64 lev, .slice g.a1 en g.c1] else .tuple #[.slice g.a1 sn g.c1, .int .i64 0])
    (fun h y => At 1 Zc y h.a1 Wt) (fun h y => At 1 Zc y h.a1 (natZ S))
  case hB => kernel_rfl
  case hB' => intro g; kernel_rfl
  case hS => kernel_rfl
  case hN => kernel_rfl
  case hne => decide
  case hd =>
    intro L o ho h
    simp at ho
    subst ho
    simp [Region.binds] at h
    simp [h]
  case hw => exact hbw
  case hR1 => intro h y y' h2 hb; exact h2.below hb
  case hR2 => intro h y y' h2 hb; exact h2.below hb
  case hq =>
    intro g u hu hgc hbx hbX
    have D9 := bk7 (bk_keep hu Y9)
    have D13 := bk2 (bk_keep hu Y13)
    simp only [mixL, yieldsC, List.contains_cons, List.contains_nil, Nat.reduceAdd, Nat.reduceBEq, Nat.zero_add, Bool.or_false, Bool.or_true, Bool.false_or, Bool.true_or, Bool.false_eq_true, if_true, if_false, Bool.or_self, Nat.reduceEqDiff]
    repeat (go_big_quiet_step (fail))
    exact wpQuiet_nil rfl
  case hc =>
    intro o ho g y hy
    simp only [List.getElem?_cons_succ, List.getElem?_cons_zero, Option.some.injEq] at ho
    subst ho
    refine does_enter (by kernel_rfl) ((hCc.out y A9 c9 (hA9.out.below hy)).mono ?_)
    rintro e y' ⟨⟨A, c, rfl, h2⟩, hb⟩
    exact ⟨_, rfl, hb, { Gh.zero with a1 := A, c1 := c }, rfl, own_at h2 hWn'.out⟩
  case hqq =>
    intro o ho g y hy h2
    simp only [List.getElem?_cons_succ, List.getElem?_cons_zero, Option.some.injEq] at ho
    subst ho
    refine does_enter (by kernel_rfl) ((hHg.out y (g 2).a1 (g 2).c1 hy h2).mono ?_)
    rintro e y' ⟨⟨A, c, rfl, h3⟩, hb⟩
    exact ⟨_, rfl, hb, { Gh.zero with a1 := A, c1 := c }, rfl, own_ints h3⟩
  case hind =>
    intro j hj
    simp only [List.mem_cons, List.not_mem_nil, or_false] at hj
    rcases hj with rfl | rfl <;> (intro g h; kernel_rfl)
  intro g y10 hy hbw hA16
  obtain ⟨A16, eA16⟩ : ∃ a, (g 3).a1 = a := ⟨_, rfl⟩
  obtain ⟨c16, ec16⟩ : ∃ a, (g 3).c1 = a := ⟨_, rfl⟩
  obtain ⟨u2, eu2⟩ : ∃ a, (g 2).a1 = a := ⟨_, rfl⟩
  obtain ⟨v2, ev2⟩ : ∃ a, (g 2).c1 = a := ⟨_, rfl⟩
  rw [eA16] at hA16
  have hA16 := Lib.hid hA16
  have X0 := bk_keep hy X0
  have X1 := bk_keep hy X1
  have Y9 := bk_keep hy Y9
  have hA9 := Lib.hid (hA9.out.below hy)
  clear D0 D1 D9 D13 Y13 hCy hHg hy
  rw [eA16, ec16, eu2, ev2]
  clear eA16 ec16 eu2 ev2
  have D0 := bk2 X0
  have D1 := bk2 X1
  have D9 := bk7 Y9
  have hsI : ¬ (en : Int) < (sn : Int) := by omega
  go_wp2_with (first
    | (go_at_call 18; refine (refOnly_any pA eA A16 pc ec pn en c16 sn S _ hA16.out hsn'.out hasc.out (by omega) (by omega)).mono ?_; rintro e y11 ⟨rfl, hb11⟩; (have X0 := bk_keep hb11 X0); (have X1 := bk_keep hb11 X1); (have Y9 := bk_keep hb11 Y9); (have hbw := via hbw hb11); (have hA9 := Lib.hid (hA9.out.below hb11)); (have hA16 := Lib.hid (hA16.out.below hb11)); clear hb11 D0 D1 D9; (have D0 := bk2 X0); (have D1 := bk2 X1); (have D9 := bk7 Y9))
    | (go_at_call 12; refine (hCc.out _ A9 c9 hA9.out).mono ?_; rintro e y12 ⟨⟨A18, c18, rfl, hO18⟩, hb12⟩; clear hO18; (have X0 := bk_keep hb12 X0); (have X1 := bk_keep hb12 X1); (have Y9 := bk_keep hb12 Y9); (have hbw := via hbw hb12); (have hA9 := Lib.hid (hA9.out.below hb12)); (have hA16 := Lib.hid (hA16.out.below hb12)); clear hb12 D0 D1 D9; (have D0 := bk2 X0); (have D1 := bk2 X1); (have D9 := bk7 Y9)))
  have hA9w := Lib.hid hA9.out
  have hA16w := Lib.hid hA16.out
  have hVal := Lib.hid fun (j i : Nat) (hi : S[j]? = some i) => (show (S.take (j + 1)).map (fun i => Value.int .i64 (Wt.getD i 0)) = (S.take j).map (fun i => Value.int .i64 (Wt.getD i 0)) ++ [.int .i64 (Wt.getD i 0)] by rw [List.take_add_one, hi]; simp)
  obtain ⟨i0, hi0, hz0, hz1, hz2⟩ := info_parts Tryz.info3
  clear hA9 hA16 hCc D0 D1 D9
  go_loopw [19] (fun i wr => ∃ j : Nat, ∃ vl : Value, j ≤ sn ∧ i = .int .i64 j ∧ wr.heap[y12.heap.size]? = some (.cells #[.string (bs oldS), .int .i64 1, .int .i64 ag, .int .i64 v, .int .i64 den, .int .i64 lev, vl] 37 (0, 0)) ∧ Hid (wr.ownsRow (y12.heap.size + 1) 3 1 vl j ((S.take j).map fun i => Value.int .i64 (Wt.getD i 0))) ∧ Below y12.heap.size y12 wr) (fun i _ => sn - (intOf i).toNat)
  case atStart => exact ⟨0, .slice none 0 0, Nat.zero_le _, rfl, bk_new y12 (.cells #[.string (bs oldS), .int .i64 1, .int .i64 ag, .int .i64 v, .int .i64 den, .int .i64 lev, (.slice none 0 0)] 37 (0, 0)) rfl, Lib.hid (World.ownsRow_nil _ _ _ _), by go_grown⟩
  case round =>
    obtain ⟨j, vl, hj, rfl, Y18, hown, hb12⟩ := hrel
    obtain ⟨A5, c5, rfl⟩ := own_slice hown.out
    have hbw' := via hbw hb12
    have Z0 := bk_keep hb12 X0
    have Z1 := bk_keep hb12 X1
    have Z9 := bk_keep hb12 Y9
    have D0 := bk2 Z0
    have D1 := bk2 Z1
    have D9 := bk7 Z9
    have D18 := bk7 Y18
    by_cases hlt : j < sn
    · have hjI : (j : Int) < (sn : Int) := by omega
      obtain ⟨i, hi2⟩ : ∃ i, S[j]? = some i := ⟨_, List.getElem?_eq_getElem (by rw [hsn'.out]; exact hlt)⟩
      have hie : i < en := (hasc.out.lt i (List.mem_of_getElem? hi2)).2
      obtain ⟨zv, hzv⟩ : ∃ z, Wt.getD i 0 = z := ⟨_, rfl⟩
      have hv2 := Lib.hid (hVal.out j i hi2)
      rw [hzv] at hv2
      have hiv : (natZ S).getD j 0 = (i : Int) := by rw [natZ, List.getD_eq_getElem?_getD, List.getElem?_map, hi2]; rfl
      have hc4 := Lib.hid fun u (hb : Below y12.heap.size y12 u) => (show ∃ b o, A16 = some ⟨b, o, none⟩ ∧ b < u.heap.size ∧ u.cell? ⟨b, o + j, none⟩ = some (.int .i64 (i : Int)) from by
        have := zc_cell (hA16w.out.below hb) (k := j) (by rw [natZ, List.length_map, hsn'.out]; exact hlt)
        rwa [hiv] at this)
      have hc5 := Lib.hid fun u (hb : Below y12.heap.size y12 u) => (show ∃ b o, A9 = some ⟨b, o, none⟩ ∧ b < u.heap.size ∧ u.cell? ⟨b, o + i, none⟩ = some (.int .i64 zv) from by
        have := zc_cell (hA9w.out.below hb) (k := i) (by rw [hWn'.out]; exact hie)
        rwa [hzv] at this)
      clear hiv
      obtain ⟨b16, o16, eA16, -, -⟩ := hc4.out _ hb12
      obtain ⟨b9, o9, eA9, -, -⟩ := hc5.out _ hb12
      subst eA16
      subst eA9
      have hiI : (i : Int) < (en : Int) := by omega
      have hiI0 : (0 : Int) ≤ (i : Int) := by omega
      have hjI0 : (0 : Int) ≤ (j : Int) := by omega
      clear hi2 hzv
      go_wp2
      refine wp_region_any (by kernel_rfl) ?_
      refine any_lastR 16 _ rfl rfl (by kernel_rfl) (by kernel_rfl) (by kernel_rfl) (by kernel_rfl) ?_
      simp only [List.take_succ_cons, List.take_zero]
      apply any_push y12 12 13 j 1 (.cells #[.int .i64 zv] 3 (0, 0)) [.int .i64 zv] (y12.heap.size + 1) 3 (.slice A5 j c5) ((S.take j).map fun i => Value.int .i64 (Wt.getD i 0))
      case hB => kernel_rfl
      case hB' => intro g; kernel_rfl
      case hS => kernel_rfl
      case hN => kernel_rfl
      case hne => decide
      case hd =>
        intro L o ho h
        simp at ho
        subst ho
        simp [Region.binds] at h
        simp [h]
      case hw => exact hb12
      case hv0 => exact fun r e => by have := (hown.out.lt r e).1; omega
      case hown => exact hown.out
      case hq =>
        intro g u hu hgc hbx hbX
        have N0 := bk2 (bk_kc hu Z0 (not_own hown.out (by have := bk_size X0; omega)))
        have N9 := bk7 (bk_kc hu Z9 (not_own hown.out (by have := bk_size Y9; omega)))
        have N18 := bk7 (bk_kc hu Y18 (not_own hown.out (by omega)))
        obtain ⟨b', o', eA, hbb', hc'⟩ := hc4.out u hu.1
        cases eA
        obtain ⟨b', o', eA, hbb2', hc2'⟩ := hc5.out u hu.1
        cases eA
        simp only [mixL, mkPu, yieldsC, List.contains_cons, List.contains_nil, Nat.reduceAdd, Nat.reduceBEq, Nat.zero_add, Bool.or_false, Bool.or_true, Bool.false_or, Bool.true_or, Bool.false_eq_true, if_true, if_false, Bool.or_self, Nat.reduceEqDiff]
        repeat (go_big_quiet_step (fail))
        exact wpQuiet_nil rfl
      case hal =>
        intro o' ho g y hC
        simp only [List.getElem?_cons_succ, List.getElem?_cons_zero, Option.some.injEq] at ho
        subst ho
        kernel_rfl
      case hap =>
        intro o' ho g y hC hown2 hz
        simp only [List.getElem?_cons_succ, List.getElem?_cons_zero, Option.some.injEq] at ho
        subst ho
        exact exec_append_cells (.tmp 144) (.tmp 154) 33 3 i0 _ _ 8 (y12.heap.size + 1) j (g 12).b 1 _ [.int .i64 zv] 3 rfl rfl rfl Tryz.underlying33 hi0 hz0 hz1 hz2 rfl (by decide) (by decide) rfl hown2 hz (by simp [Value.oneCell']) (by omega) (by have := hC.2.1; have := bk_size Y18; omega)
      case hind =>
        intro j hj
        simp only [List.mem_cons, List.not_mem_nil, or_false] at hj
        rcases hj with rfl | rfl <;> (intro g h; kernel_rfl)
      intro g u hu hown3
      obtain ⟨A6, eA6⟩ : ∃ a, (g 13).a1 = a := ⟨_, rfl⟩
      obtain ⟨c6, ec6⟩ : ∃ a, (g 13).c1 = a := ⟨_, rfl⟩
      obtain ⟨b6, eb6⟩ : ∃ a, (g 12).b = a := ⟨_, rfl⟩
      rw [eA6, ec6] at hown3
      have N18 := bk_kc hu Y18 (not_own hown.out (by omega))
      obtain ⟨-, -, -, -, -, -, q6, -, -, -, -, -, -, f6, -⟩ := bk7 N18
      have ho4 := Lib.hid (show u.ownsRow (y12.heap.size + 1) 3 1 (.slice A6 (j + 1) c6) (j + 1) ((S.take (j + 1)).map fun i => Value.int .i64 (Wt.getD i 0)) by rw [hv2.out]; exact hown3)
      rw [eA6, ec6, eb6]
      refine oper_skip (x := u.setCell ⟨y12.heap.size, 6, none⟩ (.slice A6 (j + 1) c6)) (run_store_slice rfl (by kernel_rfl) rfl rfl q6 f6) ?_
      have ho5 := Lib.hid (owns_kept ho4.out fun r e => ((OnlyB.refl y12.heap.size u).set 6 (.slice A6 (j + 1) c6)).other r (by have := (ho4.out.lt r e).1; omega))
      have P18 := bk_here (o := 6) N18 (.slice A6 (j + 1) c6) rfl
      have hb5 : Below y12.heap.size y12 (u.setCell ⟨y12.heap.size, 6, none⟩ (.slice A6 (j + 1) c6)) := hu.1.trans (((OnlyB.refl y12.heap.size u).set 6 _).below _ (Nat.le_refl _))
      obtain ⟨W5, hW5⟩ : ∃ x, u.setCell ⟨y12.heap.size, 6, none⟩ (.slice A6 (j + 1) c6) = x := ⟨_, rfl⟩
      rw [hW5] at P18 hb5 ho5 ⊢
      clear hW5
      go_wp2
      go_roundw
      case rel => exact ⟨j + 1, _, by omega, by go_num, P18, ho5, hb5⟩
      case measure => first | (simp [intOf]; done) | (simp [intOf]; omega)
    · obtain rfl : sn = j := by omega
      have hall : S.take sn = S := by rw [← hsn'.out, List.take_length]
      have hA5 := Lib.hid (show At 1 Zc wr A5 (S.map fun i => Wt.getD i 0) from own_ints (by rw [List.map_map]; have := hown.out; rw [hall] at this; exact this))
      have hA16 := Lib.hid (hA16w.out.below hb12)
      clear hall hlt hVal hown hi0 hz0 hz1 hz2
      go_wp2_with (first
        | (go_at_call 9; refine (hCp.out _ hbw').mono ?_; rintro e z1 ⟨⟨A12, c12, A13, c13, es4, rfl, hCa⟩, hb⟩; (have hCa := Lib.hid hCa); (have Z0 := bk_keep hb Z0); (have Z1 := bk_keep hb Z1); (have Z9 := bk_keep hb Z9); (have Y18 := bk_keep hb Y18); (have hbw' := via hbw' hb); (have hA5 := Lib.hid (hA5.out.below hb)); (have hA16 := Lib.hid (hA16.out.below hb)); clear hb D0 D1 D9 D18; (have D0 := bk2 Z0); (have D1 := bk2 Z1); (have D9 := bk7 Z9); (have D18 := bk7 Y18))
        | (go_at_call 20; refine (refInts_any A16 (natZ S) c16 sn _ hA16.out (by rw [natZ, List.length_map]; exact hsn'.out) (by omega)).mono ?_; rintro e z2 ⟨⟨A20, c20, rfl, hO20⟩, hb⟩; (have hA20 := Lib.hid (own_at hO20 (by rw [natZ, List.length_map]; exact hsn'.out))); (have hCa := Lib.hid (hCa.out.below hb)); clear hO20; (have Z0 := bk_keep hb Z0); (have Z1 := bk_keep hb Z1); (have Z9 := bk_keep hb Z9); (have Y18 := bk_keep hb Y18); (have hbw' := via hbw' hb); (have hA5 := Lib.hid (hA5.out.below hb)); (have hA16 := Lib.hid (hA16.out.below hb)); clear hb D0 D1 D9 D18; (have D0 := bk2 Z0); (have D1 := bk2 Z1); (have D9 := bk7 Z9); (have D18 := bk7 Y18))
        | (go_at_call 19; refine (c_only A12 A13 A20 c12 c13 pn en c20 sn ps es es4 S _ hCa.out hF'.out.fewB hR'.out hpn'.out hen'.out hA20.out hsn'.out hasc.out).mono ?_; rintro e z3 ⟨⟨A14, c14, A15, c15, es5, rfl, hl5, hs5, hB5⟩, hb⟩; (have hl5 := Lib.hid hl5); (have hs5 := Lib.hid hs5); (have hB5 := Lib.hid hB5); clear hCa hA20; (have Z0 := bk_keep hb Z0); (have Z1 := bk_keep hb Z1); (have Z9 := bk_keep hb Z9); (have Y18 := bk_keep hb Y18); (have hbw' := via hbw' hb); (have hA5 := Lib.hid (hA5.out.below hb)); (have hA16 := Lib.hid (hA16.out.below hb)); clear hb D0 D1 D9 D18; (have D0 := bk2 Z0); (have D1 := bk2 Z1); (have D9 := bk7 Z9); (have D18 := bk7 Y18))
        | (go_at_call 21; refine (c_alone A14 A15 A5 c14 c15 c5 pn en sn ps es es5 1 ag v den lev Wt _ (hB5.out.below (new_below _ _)) (by rw [hSe'.out]; exact hs5.out) hl5.out hF'.out.fewB hR'.out hask'.out hC'.out (by rw [hSe'.out]; exact hA5.out.below (new_below _ _)) hpn'.out hen'.out (by rw [hSe'.out]; exact hsn'.out)).mono ?_; rintro e z4 ⟨rfl, hb⟩; (have hb := via (new_below _ _) hb); (have Z0 := bk_keep hb Z0); (have Z1 := bk_keep hb Z1); (have Z9 := bk_keep hb Z9); (have Y18 := bk_keep hb Y18); (have hbw' := via hbw' hb); (have hA5 := Lib.hid (hA5.out.below hb)); (have hA16 := Lib.hid (hA16.out.below hb)); clear hb D0 D1 D9 D18; (have D0 := bk2 Z0); (have D1 := bk2 Z1); (have D9 := bk7 Z9); (have D18 := bk7 Y18)))
      have hGr := Lib.hid fun W A c A2 c2 es2 (hW : CopyAt W A c ps A2 c2 es es2) => c_ground A A2 c c2 pn en ps es es2 1 ag v den lev Wt W hW hF'.out.fewB hR'.out hask'.out hC'.out hpn'.out hen'.out
      rw [hSe'.out, hsn'.out] at hGr
      refine wp_region_any (by kernel_rfl) ?_
      apply any_cc w 1 5 (fun j g => if j = 1 then .agg #[.slice g.a1 pn g.c1, .slice g.a2 en g.c2] else .tuple #[.slice g.a1 g.c2 g.c1, .int .i64 0])
        (fun h y => ∃ es2, CopyAt y h.a1 h.c1 ps h.a2 h.c2 es es2) (fun h y => h.c2 ≤ sn)
      case hB => kernel_rfl
      case hB' => intro g; kernel_rfl
      case hS => kernel_rfl
      case hN => kernel_rfl
      case hne => decide
      case hd =>
        intro L o ho h
        simp at ho
        subst ho
        simp [Region.binds] at h
        simp [h]
      case hw => exact hbw'
      case hR1 => rintro h y y' ⟨es2, h2⟩ hb; exact ⟨es2, h2.below hb⟩
      case hR2 => intro h y y' h2 hb; exact h2
      case hq =>
        intro g u hu hgc hbx hbX
        have N0 := bk2 (bk_keep hu Z0)
        have N1 := bk2 (bk_keep hu Z1)
        have N9 := bk7 (bk_keep hu Z9)
        simp only [mixL, yieldsC, List.contains_cons, List.contains_nil, Nat.reduceAdd, Nat.reduceBEq, Nat.zero_add, Bool.or_false, Bool.or_true, Bool.false_or, Bool.true_or, Bool.false_eq_true, if_true, if_false, Bool.or_self, Nat.reduceEqDiff]
        repeat (go_big_quiet_step (fail))
        exact wpQuiet_nil rfl
      case hc =>
        intro o ho g y hy
        simp only [List.getElem?_cons_succ, List.getElem?_cons_zero, Option.some.injEq] at ho
        subst ho
        refine does_enter (by kernel_rfl) ((hCp.out y (via hbw' hy)).mono ?_)
        rintro e y' ⟨⟨A, c, A2, c2, es2, rfl, h2⟩, hb⟩
        exact ⟨_, rfl, hb, { Gh.zero with a1 := A, c1 := c, a2 := A2, c2 := c2 }, rfl, es2, h2⟩
      case hqq =>
        rintro o ho g y hy ⟨es2, h2⟩
        simp only [List.getElem?_cons_succ, List.getElem?_cons_zero, Option.some.injEq] at ho
        subst ho
        refine does_enter (by kernel_rfl) ((hGr.out y _ _ _ _ es2 h2).mono ?_)
        rintro e y' ⟨⟨A, n, c, rfl, h3⟩, hb⟩
        exact ⟨_, rfl, hb, { Gh.zero with a1 := A, c1 := c, c2 := n }, rfl, h3⟩
      case hind =>
        intro j hj
        simp only [List.mem_cons, List.not_mem_nil, or_false] at hj
        rcases hj with rfl | rfl <;> (intro g h; kernel_rfl)
      intro g y hy hbw9 hle
      have hleI : ((g 5).c2 : Int) ≤ (sn : Int) := by omega
      go_wp2
      go_ret
      exact ⟨by simp [hleI], hbw9⟩
end Go.Proofs

set_option linter.unusedSimpArgs false
set_option linter.unusedVariables false
namespace Go.Proofs
open Go.RowKit
set_option linter.unusedVariables false
/-! TopCertifyGround: where none can be issued. -/
set_option maxRecDepth 100000 in
set_option maxHeartbeats 16000000 in
theorem none_mean (pA eA : Option Addr) (pc ec pn en : Nat) (ps : List Pa) (es : List En) (ag : Int) (w : World) (hB : BookAt w pA pc ps eA ec es) (hpn : ps.length = pn) (hen : es.length = en) (ht : Tabs w) (hF : FewR ps es) (hR : BookR ps es) (hask0 : askE 0 ag = 0)
    (hIs0 : solvedL ps.length (exs es) (worthL ps 0 0) = none) :
    Calls Tryz.prog 3 #[.agg #[.slice pA pn pc, .slice eA en ec], .agg #[.int .i64 0, .int .i64 ag]] w fun e w' => e = .returned (.bool true) ∧ Below w.heap.size w w' := by
  have hask : askE 0 0 = 0 := askE_zero.2 ⟨(askE_zero.1 hask0).1, by have := (askE_zero.1 hask0).2; omega⟩
  have hn1 := hR.n1
  have he8 : en ≤ 8 := by rw [← hen]; exact hR.e8
  have hp5 : pn ≤ 5 := by rw [← hpn]; exact hR.n5
  have hCe := Lib.hid fun W (hb : Below w.heap.size w W) => certified_any W (ht.below hb)
  have hFe := Lib.hid fun W (hb : Below w.heap.size w W) => (few_any pA eA pc ec pn en ps es W (hB.below hb) hpn hen).mono (R' := fun e w' => (e = .returned (.bool false) ∨ e = .returned (.bool true)) ∧ Below W.heap.size W w') fun e w' h => ⟨by
    obtain ⟨r, rfl, hr⟩ := h.1
    cases r with
    | false => exact .inl rfl
    | true => exact .inr rfl, h.2⟩
  have hAs := Lib.hid fun W => refAsk_any 0 ag W
  have hBk := Lib.hid fun W (hb : Below w.heap.size w W) => refBook_any pA eA pc ec pn en ps es W (hB.below hb) hF.fewB hpn hen
  have hCp := Lib.hid fun W (hb : Below w.heap.size w W) => c_copy pA eA pc ec pn en ps es W (hB.below hb) hF.fewB hpn hen (by omega)
  have hIs := Lib.hid fun W A c A2 c2 es2 (hW : CopyAt W A c ps A2 c2 es es2) => (show Calls Tryz.prog 8 #[.agg #[.slice A pn c, .slice A2 en c2], .agg #[.int .i64 0, .int .i64 0], .string (bs oldS)] W fun e w' => e = .returned (.tuple #[ceNone, .int .i64 12]) ∧ Below W.heap.size W w' from by
    have := c_issue A A2 c c2 pn en ps es es2 0 0 W hW hF.fewB hR hask hpn hen
    rw [hIs0] at this
    exact this)
  clear hIs0
  go_enter Tryz.func3, Tryz.ntmps3
  have hF' := Lib.hid hF
  have hR' := Lib.hid hR
  have hB' := Lib.hid hB
  have ht' := Lib.hid ht
  have hask' := Lib.hid hask
  have hpn' := Lib.hid hpn
  have hen' := Lib.hid hen
  clear hF hR hB ht hask0 hask hpn hen hn1
  go_wp2_with (first
    | (go_at_call 4; refine (hCe.out _ (by go_grown)).mono ?_; rintro e w1 ⟨rfl, hb1⟩; (have M0 := bk_keep hb1 (by (repeat (first | assumption | (refine bk_new _ _ ?_; (simp; done)) | refine bk_drew ?_ | refine bk_alloc ?_ _ | refine bk_set ?_ (by simp <;> omega) _)) : ((w.alloc (.cells #[.slice pA pn pc, .slice eA en ec] 25 (0, 0))).alloc (.cells #[.int .i64 0, .int .i64 ag] 27 (0, 0))).heap[w.heap.size]? = some (.cells #[.slice pA pn pc, .slice eA en ec] 25 (0, 0)))); (have M1 := bk_keep hb1 (by (repeat (first | assumption | (refine bk_new _ _ ?_; (simp; done)) | refine bk_drew ?_ | refine bk_alloc ?_ _ | refine bk_set ?_ (by simp <;> omega) _)) : ((w.alloc (.cells #[.slice pA pn pc, .slice eA en ec] 25 (0, 0))).alloc (.cells #[.int .i64 0, .int .i64 ag] 27 (0, 0))).heap[w.heap.size + 1]? = some (.cells #[.int .i64 0, .int .i64 ag] 27 (0, 0)))); (have hbw : Below w.heap.size w w1 := via (by go_grown) hb1); (have D0 := bk2 M0); (have D1 := bk2 M1))
    | (go_at_call 5; refine (hFe.out _ hbw).mono ?_; rintro e w2 ⟨hr, hb2⟩; (have M0 := bk_keep hb2 M0); (have M1 := bk_keep hb2 M1); (have hbw := via hbw hb2); clear D0 D1; (have D0 := bk2 M0); (have D1 := bk2 M1); rcases hr with rfl | rfl)
    | (go_at_call 6; refine (hAs.out _).mono ?_; rintro e w3 ⟨⟨E, rfl, hE⟩, hb3⟩; (have M0 := bk_keep hb3 M0); (have M1 := bk_keep hb3 M1); (have hbw := via hbw hb3); clear D0 D1; (have D0 := bk2 M0); (have D1 := bk2 M1); clear hE)
    | (go_at_call 7; refine (hBk.out _ hbw).mono ?_; rintro e w4 ⟨⟨n2, E2, rfl, hE2⟩, hb4⟩; (have M0 := bk_keep hb4 M0); (have M1 := bk_keep hb4 M1); (have hbw := via hbw hb4); clear D0 D1; (have D0 := bk2 M0); (have D1 := bk2 M1); clear hE2))
  · go_ret
    exact ⟨rfl, by go_grown⟩
  · go_ret
    exact ⟨rfl, by go_grown⟩
  · go_ret
    exact ⟨rfl, by go_grown⟩
  refine wp_world ?_
  intro x hx
  have X0 : x.heap[w.heap.size]? = some (.cells #[.slice pA pn pc, .slice eA en ec] 25 (0, 0)) := by rw [hx]; first | exact M0 | exact bk_set M0 (by simp) _
  have X1 : x.heap[w.heap.size + 1]? = some (.cells #[.int .i64 0, .int .i64 0] 27 (0, 0)) := by rw [hx]; first | exact M1 | exact bk_here M1 _ rfl
  have hbx : Below w.heap.size w x := by rw [hx]; go_grown
  clear hx M0 M1 D0 D1 hbw hFe hAs hBk hCe
  refine wp_region_any (by kernel_rfl) ?_
  apply any_ccs w 1 3 7 8 (fun j g => if j = 1 then .agg #[.slice g.a1 pn g.c1, .slice g.a2 en g.c2] else if j = 3 then .tuple #[ceNone, .int .i64 12] else .pointer (some ⟨g.b, 0, none⟩))
    (fun h y => ∃ es2, CopyAt y h.a1 h.c1 ps h.a2 h.c2 es es2) 3 0 [] (.cells #[.string (ByteArray.mk #[]), .int .i64 0, .int .i64 0, .int .i64 0, .int .i64 0, .int .i64 0, .slice none 0 0] 37 (0, 0)) (fun h => .cells #[.string (ByteArray.mk #[]), .int .i64 0, .int .i64 0, .int .i64 0, .int .i64 0, .int .i64 0, .slice none 0 0] 37 (0, 0))
  case hB => kernel_rfl
  case hB' => intro g; kernel_rfl
  case hS => kernel_rfl
  case hN => kernel_rfl
  case hne => decide
  case hd =>
    intro L o ho h
    simp at ho
    subst ho
    simp [Region.binds] at h
    simp [h]
  case hD => kernel_rfl
  case hkd => intro o ho; simp at ho; subst ho; rfl
  case hm => intro h; rfl
  case hw => exact hbx
  case hR1 => rintro h y y' ⟨es2, h2⟩ hb; exact ⟨es2, h2.below hb⟩
  case hq =>
    intro g u hu hgc hbx hbX
    have D0 := bk2 (bk_keep hu X0)
    have D1 := bk2 (bk_keep hu X1)
    simp only [mixL, yieldsC, List.contains_cons, List.contains_nil, Nat.reduceAdd, Nat.reduceBEq, Nat.zero_add, Bool.or_false, Bool.or_true, Bool.false_or, Bool.true_or, Bool.false_eq_true, if_true, if_false, Bool.or_self, Nat.reduceEqDiff]
    repeat (go_big_quiet_step (fail))
    exact wpQuiet_nil rfl
  case hc =>
    intro o ho g y hy
    simp only [List.getElem?_cons_succ, List.getElem?_cons_zero, Option.some.injEq] at ho
    subst ho
    refine does_enter (by kernel_rfl) ((hCp.out y (via hbx hy)).mono ?_)
    rintro e y' ⟨⟨A, c, A2, c2, es2, rfl, h2⟩, hb⟩
    exact ⟨_, rfl, hb, { Gh.zero with a1 := A, c1 := c, a2 := A2, c2 := c2 }, rfl, es2, h2⟩
  case hqq =>
    rintro o ho g y hy ⟨es2, h2⟩
    simp only [List.getElem?_cons_succ, List.getElem?_cons_zero, Option.some.injEq] at ho
    subst ho
    refine does_enter (by kernel_rfl) ((hIs.out y _ _ _ _ es2 h2).mono ?_)
    rintro e y' ⟨rfl, hb⟩
    exact ⟨_, rfl, hb, Gh.zero, rfl, World.ownsRow_nil _ _ _ _⟩
  case hal => intro o ho; simp at ho; subst ho; intro a x; kernel_rfl
  case hst =>
    intro o ho g y hy hz
    simp only [List.getElem?_cons_succ, List.getElem?_cons_zero, Option.some.injEq] at ho
    subst ho
    exact exec_store_block (.tmp 7) (.tmp 50) 37 (by with_reducible rfl) (g 7).b [.string (ByteArray.mk #[]), .int .i64 0, .int .i64 0, .int .i64 0, .int .i64 0, .int .i64 0, .slice none 0 0] [.string (ByteArray.mk #[]), .int .i64 0, .int .i64 0, .int .i64 0, .int .i64 0, .int .i64 0, .slice none 0 0] 37 rfl rfl (by kernel_rfl) hz rfl (by simp [Value.oneCell'])
  case hind =>
    intro j hj
    simp only [List.mem_cons, List.not_mem_nil, or_false] at hj
    rcases hj with rfl | rfl | rfl | rfl <;> (intro g h; kernel_rfl)
  intro g y hy hbw hB7 Y7 hO7 hne7
  obtain ⟨B7, eB7⟩ : ∃ a, (g 7).b = a := ⟨_, rfl⟩
  rw [eB7]
  have hce : ∀ W, (binOp .neq 38 (.int .i64 12) (.int .i64 0)).run Tryz.prog W = .ok (.bool true) W := fun W => by kernel_rfl
  go_wp2
  go_ret
  exact ⟨by first | rfl | simp, hbw⟩
set_option maxRecDepth 100000 in
set_option maxHeartbeats 16000000 in
theorem none_share (pA eA : Option Addr) (pc ec pn en : Nat) (ps : List Pa) (es : List En) (ag : Int) (w : World) (hB : BookAt w pA pc ps eA ec es) (hpn : ps.length = pn) (hen : es.length = en) (ht : Tabs w) (hF : FewR ps es) (hR : BookR ps es) (hask0 : askE 1 ag = 0)
    (hIs0 : solvedL ps.length (exs es) (worthL ps 1 ag) = none) :
    Calls Tryz.prog 3 #[.agg #[.slice pA pn pc, .slice eA en ec], .agg #[.int .i64 1, .int .i64 ag]] w fun e w' => e = .returned (.bool true) ∧ Below w.heap.size w w' := by
  have hask : askE 1 ag = 0 := askE_zero.2 ⟨(askE_zero.1 hask0).1, by have := (askE_zero.1 hask0).2; omega⟩
  have hn1 := hR.n1
  have he8 : en ≤ 8 := by rw [← hen]; exact hR.e8
  have hp5 : pn ≤ 5 := by rw [← hpn]; exact hR.n5
  have hCe := Lib.hid fun W (hb : Below w.heap.size w W) => certified_any W (ht.below hb)
  have hFe := Lib.hid fun W (hb : Below w.heap.size w W) => (few_any pA eA pc ec pn en ps es W (hB.below hb) hpn hen).mono (R' := fun e w' => (e = .returned (.bool false) ∨ e = .returned (.bool true)) ∧ Below W.heap.size W w') fun e w' h => ⟨by
    obtain ⟨r, rfl, hr⟩ := h.1
    cases r with
    | false => exact .inl rfl
    | true => exact .inr rfl, h.2⟩
  have hAs := Lib.hid fun W => refAsk_any 1 ag W
  have hBk := Lib.hid fun W (hb : Below w.heap.size w W) => refBook_any pA eA pc ec pn en ps es W (hB.below hb) hF.fewB hpn hen
  have hCp := Lib.hid fun W (hb : Below w.heap.size w W) => c_copy pA eA pc ec pn en ps es W (hB.below hb) hF.fewB hpn hen (by omega)
  have hIs := Lib.hid fun W A c A2 c2 es2 (hW : CopyAt W A c ps A2 c2 es es2) => (show Calls Tryz.prog 8 #[.agg #[.slice A pn c, .slice A2 en c2], .agg #[.int .i64 1, .int .i64 ag], .string (bs oldS)] W fun e w' => e = .returned (.tuple #[ceNone, .int .i64 12]) ∧ Below W.heap.size W w' from by
    have := c_issue A A2 c c2 pn en ps es es2 1 ag W hW hF.fewB hR hask hpn hen
    rw [hIs0] at this
    exact this)
  clear hIs0
  go_enter Tryz.func3, Tryz.ntmps3
  have hF' := Lib.hid hF
  have hR' := Lib.hid hR
  have hB' := Lib.hid hB
  have ht' := Lib.hid ht
  have hask' := Lib.hid hask
  have hpn' := Lib.hid hpn
  have hen' := Lib.hid hen
  clear hF hR hB ht hask0 hask hpn hen hn1
  go_wp2_with (first
    | (go_at_call 4; refine (hCe.out _ (by go_grown)).mono ?_; rintro e w1 ⟨rfl, hb1⟩; (have M0 := bk_keep hb1 (by (repeat (first | assumption | (refine bk_new _ _ ?_; (simp; done)) | refine bk_drew ?_ | refine bk_alloc ?_ _ | refine bk_set ?_ (by simp <;> omega) _)) : ((w.alloc (.cells #[.slice pA pn pc, .slice eA en ec] 25 (0, 0))).alloc (.cells #[.int .i64 1, .int .i64 ag] 27 (0, 0))).heap[w.heap.size]? = some (.cells #[.slice pA pn pc, .slice eA en ec] 25 (0, 0)))); (have M1 := bk_keep hb1 (by (repeat (first | assumption | (refine bk_new _ _ ?_; (simp; done)) | refine bk_drew ?_ | refine bk_alloc ?_ _ | refine bk_set ?_ (by simp <;> omega) _)) : ((w.alloc (.cells #[.slice pA pn pc, .slice eA en ec] 25 (0, 0))).alloc (.cells #[.int .i64 1, .int .i64 ag] 27 (0, 0))).heap[w.heap.size + 1]? = some (.cells #[.int .i64 1, .int .i64 ag] 27 (0, 0)))); (have hbw : Below w.heap.size w w1 := via (by go_grown) hb1); (have D0 := bk2 M0); (have D1 := bk2 M1))
    | (go_at_call 5; refine (hFe.out _ hbw).mono ?_; rintro e w2 ⟨hr, hb2⟩; (have M0 := bk_keep hb2 M0); (have M1 := bk_keep hb2 M1); (have hbw := via hbw hb2); clear D0 D1; (have D0 := bk2 M0); (have D1 := bk2 M1); rcases hr with rfl | rfl)
    | (go_at_call 6; refine (hAs.out _).mono ?_; rintro e w3 ⟨⟨E, rfl, hE⟩, hb3⟩; (have M0 := bk_keep hb3 M0); (have M1 := bk_keep hb3 M1); (have hbw := via hbw hb3); clear D0 D1; (have D0 := bk2 M0); (have D1 := bk2 M1); clear hE)
    | (go_at_call 7; refine (hBk.out _ hbw).mono ?_; rintro e w4 ⟨⟨n2, E2, rfl, hE2⟩, hb4⟩; (have M0 := bk_keep hb4 M0); (have M1 := bk_keep hb4 M1); (have hbw := via hbw hb4); clear D0 D1; (have D0 := bk2 M0); (have D1 := bk2 M1); clear hE2))
  · go_ret
    exact ⟨rfl, by go_grown⟩
  · go_ret
    exact ⟨rfl, by go_grown⟩
  · go_ret
    exact ⟨rfl, by go_grown⟩
  refine wp_world ?_
  intro x hx
  have X0 : x.heap[w.heap.size]? = some (.cells #[.slice pA pn pc, .slice eA en ec] 25 (0, 0)) := by rw [hx]; first | exact M0 | exact bk_set M0 (by simp) _
  have X1 : x.heap[w.heap.size + 1]? = some (.cells #[.int .i64 1, .int .i64 ag] 27 (0, 0)) := by rw [hx]; first | exact M1 | exact bk_here M1 _ rfl
  have hbx : Below w.heap.size w x := by rw [hx]; go_grown
  clear hx M0 M1 D0 D1 hbw hFe hAs hBk hCe
  refine wp_region_any (by kernel_rfl) ?_
  apply any_ccs w 1 3 7 8 (fun j g => if j = 1 then .agg #[.slice g.a1 pn g.c1, .slice g.a2 en g.c2] else if j = 3 then .tuple #[ceNone, .int .i64 12] else .pointer (some ⟨g.b, 0, none⟩))
    (fun h y => ∃ es2, CopyAt y h.a1 h.c1 ps h.a2 h.c2 es es2) 3 0 [] (.cells #[.string (ByteArray.mk #[]), .int .i64 0, .int .i64 0, .int .i64 0, .int .i64 0, .int .i64 0, .slice none 0 0] 37 (0, 0)) (fun h => .cells #[.string (ByteArray.mk #[]), .int .i64 0, .int .i64 0, .int .i64 0, .int .i64 0, .int .i64 0, .slice none 0 0] 37 (0, 0))
  case hB => kernel_rfl
  case hB' => intro g; kernel_rfl
  case hS => kernel_rfl
  case hN => kernel_rfl
  case hne => decide
  case hd =>
    intro L o ho h
    simp at ho
    subst ho
    simp [Region.binds] at h
    simp [h]
  case hD => kernel_rfl
  case hkd => intro o ho; simp at ho; subst ho; rfl
  case hm => intro h; rfl
  case hw => exact hbx
  case hR1 => rintro h y y' ⟨es2, h2⟩ hb; exact ⟨es2, h2.below hb⟩
  case hq =>
    intro g u hu hgc hbx hbX
    have D0 := bk2 (bk_keep hu X0)
    have D1 := bk2 (bk_keep hu X1)
    simp only [mixL, yieldsC, List.contains_cons, List.contains_nil, Nat.reduceAdd, Nat.reduceBEq, Nat.zero_add, Bool.or_false, Bool.or_true, Bool.false_or, Bool.true_or, Bool.false_eq_true, if_true, if_false, Bool.or_self, Nat.reduceEqDiff]
    repeat (go_big_quiet_step (fail))
    exact wpQuiet_nil rfl
  case hc =>
    intro o ho g y hy
    simp only [List.getElem?_cons_succ, List.getElem?_cons_zero, Option.some.injEq] at ho
    subst ho
    refine does_enter (by kernel_rfl) ((hCp.out y (via hbx hy)).mono ?_)
    rintro e y' ⟨⟨A, c, A2, c2, es2, rfl, h2⟩, hb⟩
    exact ⟨_, rfl, hb, { Gh.zero with a1 := A, c1 := c, a2 := A2, c2 := c2 }, rfl, es2, h2⟩
  case hqq =>
    rintro o ho g y hy ⟨es2, h2⟩
    simp only [List.getElem?_cons_succ, List.getElem?_cons_zero, Option.some.injEq] at ho
    subst ho
    refine does_enter (by kernel_rfl) ((hIs.out y _ _ _ _ es2 h2).mono ?_)
    rintro e y' ⟨rfl, hb⟩
    exact ⟨_, rfl, hb, Gh.zero, rfl, World.ownsRow_nil _ _ _ _⟩
  case hal => intro o ho; simp at ho; subst ho; intro a x; kernel_rfl
  case hst =>
    intro o ho g y hy hz
    simp only [List.getElem?_cons_succ, List.getElem?_cons_zero, Option.some.injEq] at ho
    subst ho
    exact exec_store_block (.tmp 7) (.tmp 50) 37 (by with_reducible rfl) (g 7).b [.string (ByteArray.mk #[]), .int .i64 0, .int .i64 0, .int .i64 0, .int .i64 0, .int .i64 0, .slice none 0 0] [.string (ByteArray.mk #[]), .int .i64 0, .int .i64 0, .int .i64 0, .int .i64 0, .int .i64 0, .slice none 0 0] 37 rfl rfl (by kernel_rfl) hz rfl (by simp [Value.oneCell'])
  case hind =>
    intro j hj
    simp only [List.mem_cons, List.not_mem_nil, or_false] at hj
    rcases hj with rfl | rfl | rfl | rfl <;> (intro g h; kernel_rfl)
  intro g y hy hbw hB7 Y7 hO7 hne7
  obtain ⟨B7, eB7⟩ : ∃ a, (g 7).b = a := ⟨_, rfl⟩
  rw [eB7]
  have hce : ∀ W, (binOp .neq 38 (.int .i64 12) (.int .i64 0)).run Tryz.prog W = .ok (.bool true) W := fun W => by kernel_rfl
  go_wp2
  go_ret
  exact ⟨by first | rfl | simp, hbw⟩
end Go.Proofs

set_option linter.unusedSimpArgs false
set_option linter.unusedVariables false
namespace Go.Proofs
open Go.RowKit
set_option linter.unusedVariables false
/-! TopCertifyGround, whole. -/
theorem topGround_any (pA eA : Option Addr) (pc ec pn en : Nat) (ps : List Pa) (es : List En) (k ag : Int) (w : World) (hB : BookAt w pA pc ps eA ec es) (hpn : ps.length = pn) (hen : es.length = en) (ht : Tabs w) :
    Calls Tryz.prog 3 #[.agg #[.slice pA pn pc, .slice eA en ec], .agg #[.int .i64 k, .int .i64 ag]] w fun e w' => e = .returned (.bool true) ∧ Below w.heap.size w w' := by
  by_cases hF : FewR ps es
  case neg => exact ground_few pA eA pc ec pn en ps es k ag w hB hpn hen ht hF
  by_cases hRa : BookR ps es ∧ askE k ag = 0
  case neg => exact ground_err pA eA pc ec pn en ps es k ag w hB hpn hen ht hF hRa
  obtain ⟨hR, ha⟩ := hRa
  have h4 : ps.length ≤ 4 := by have := hF.p; have := hR.n5; omega
  rcases (askE_zero.1 ha).1 with rfl | rfl
  · cases hs : solvedL ps.length (exs es) (worthL ps 0 0) with
    | none => exact none_mean pA eA pc ec pn en ps es ag w hB hpn hen ht hF hR ha hs
    | some r =>
      obtain ⟨m, d, p⟩ := r
      exact ground_mean pA eA pc ec pn en ps es ag w hB hpn hen ht hF hR ha _ _ _ _ (cert_of hR h4 (.inl rfl) hs) ⟨m, d, p, hs, rfl, rfl, rfl, rfl⟩
  · cases hs : solvedL ps.length (exs es) (worthL ps 1 ag) with
    | none => exact none_share pA eA pc ec pn en ps es ag w hB hpn hen ht hF hR ha hs
    | some r =>
      obtain ⟨m, d, p⟩ := r
      exact ground_share pA eA pc ec pn en ps es ag w hB hpn hen ht hF hR ha _ _ _ _ (cert_of hR h4 (.inr rfl) hs) ⟨m, d, p, hs, rfl, rfl, rfl, rfl⟩
end Go.Proofs
