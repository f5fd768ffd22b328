import Derived.Test.YtpmliaildjomeaaGreatDoorMg35
import Derived.Test.YtpmliaildjomeaaGreatDoorMg28
import Derived.Test.YtpmliaildjomeaaGreatDoorMg34
import Derived.Test.YtpmliaildjomeaaGreatDoorMg26
set_option linter.unusedSimpArgs false
set_option linter.unusedVariables false
namespace Go.Proofs
open Go.RowKit
set_option linter.unusedVariables false
/-! The reference's Same: two equal books. -/
theorem sig_get {es ys : List En} (h : ys.map En.sig = es.map En.sig) {k : Nat} {x y : En} (hx : es[k]? = some x) (hy : ys[k]? = some y) : y.nm = x.nm ∧ y.co = x.co ∧ y.mo = x.mo := by
  have h1 : (ys.map En.sig)[k]? = (es.map En.sig)[k]? := by rw [h]
  rw [List.getElem?_map, List.getElem?_map, hx, hy] at h1
  simp only [Option.map_some, Option.some.injEq, En.sig, Prod.mk.injEq] at h1
  exact h1
set_option maxRecDepth 100000 in
set_option maxHeartbeats 4000000 in
theorem refSame_any (pA eA qA fA : Option Addr) (pc ec qc fc pn en : Nat) (ps : List Pa) (es ys : List En) (w : World) (hB : BookAt w pA pc ps eA ec es) (hB2 : BookAt w qA qc ps fA fc ys) (hs : ys.map En.sig = es.map En.sig) (hF : FewB ps es) (hpn : ps.length = pn) (hen : es.length = en) :
    Calls Tryz.prog 16 #[.agg #[.slice pA pn pc, .slice eA en ec], .agg #[.slice qA pn qc, .slice fA en fc]] w fun e w' => e = .returned (.bool true) ∧ Below w.heap.size w w' := by
  have hPs := Lib.hid fun W (hb : Below w.heap.size w W) => refEqParts_any pA qA ps pc qc pn W (hB.P.below hb) (hB2.P.below hb) hpn (by have := hF.p; omega)
  have hyn : ys.length = en := by have := congrArg List.length hs; simpa [hen] using this
  have hen' := Lib.hid hen
  have hyn' := Lib.hid hyn
  have hE := Lib.hid hB.E
  have hY := Lib.hid hB2.E
  have hs' := Lib.hid hs
  have hco := Lib.hid hF.co
  have hec : en ≤ ec := by rw [← hen]; exact hB.ec'
  have hfc : en ≤ fc := by rw [← hyn]; exact hB2.ec'
  have he1 : en ≤ 1000 := by rw [← hen]; exact hF.e
  clear hB hB2 hs hF hpn hen hyn
  go_enter Tryz.func16, Tryz.ntmps16
  go_wp2_with (go_at_call 46; refine (hPs.out _ (by go_grown)).mono ?_; rintro e w2 ⟨rfl, hb2⟩; (have M0 := bk_keep hb2 (by (repeat (first | assumption | (refine bk_new _ _ ?_; (simp; done)) | refine bk_drew ?_ | refine bk_alloc ?_ _ | refine bk_set ?_ (by simp <;> omega) _)) : ((w.alloc (.cells #[.slice pA pn pc, .slice eA en ec] 25 (0, 0))).alloc (.cells #[.slice qA pn qc, .slice fA en fc] 25 (0, 0))).heap[w.heap.size]? = some (.cells #[.slice pA pn pc, .slice eA en ec] 25 (0, 0)))); (have M1 := bk_keep hb2 (by (repeat (first | assumption | (refine bk_new _ _ ?_; (simp; done)) | refine bk_drew ?_ | refine bk_alloc ?_ _ | refine bk_set ?_ (by simp <;> omega) _)) : ((w.alloc (.cells #[.slice pA pn pc, .slice eA en ec] 25 (0, 0))).alloc (.cells #[.slice qA pn qc, .slice fA en fc] 25 (0, 0))).heap[w.heap.size + 1]? = some (.cells #[.slice qA pn qc, .slice fA en fc] 25 (0, 0)))); (have hbw2 : Below w.heap.size w w2 := via (by go_grown) hb2); (have D0 := bk2 M0); (have D1 := bk2 M1); clear hb2)
  clear hPs D0 D1
  go_loopw [5] (fun i wr => ∃ k : Nat, k ≤ en ∧ i = .int .i64 k ∧ wr.heap[w.heap.size]? = some (.cells #[.slice pA pn pc, .slice eA en ec] 25 (0, 0)) ∧ wr.heap[w.heap.size + 1]? = some (.cells #[.slice qA pn qc, .slice fA en fc] 25 (0, 0)) ∧ Below w.heap.size w wr) (fun i _ => en - (intOf i).toNat)
  case atStart => exact ⟨0, Nat.zero_le _, rfl, M0, M1, hbw2⟩
  case round =>
    clear M0 M1 hbw2
    obtain ⟨k, hk, rfl, M0, M1, hbw⟩ := hrel
    have D0 := bk2 M0
    have D1 := bk2 M1
    by_cases hlt : k < en
    · have hkI : (k : Int) < (en : Int) := by omega
      have hk0 : (0 : Int) ≤ (k : Int) := by omega
      obtain ⟨x, hx⟩ : ∃ x, es[k]? = some x := ⟨_, List.getElem?_eq_getElem (by rw [hen'.out]; exact hlt)⟩
      obtain ⟨y, hy⟩ : ∃ x, ys[k]? = some x := ⟨_, List.getElem?_eq_getElem (by rw [hyn'.out]; exact hlt)⟩
      have hxm := List.mem_of_getElem? hx
      obtain ⟨e1, e2, e3⟩ := sig_get hs'.out hx hy
      obtain ⟨b, o, rfl, hbb, hc⟩ := (hE.out.below hbw).1 k x hx
      obtain ⟨b2, o2, rfl, hbb2, hc2⟩ := (hY.out.below hbw).1 k y hy
      have y0 := hc 0 _ rfl
      have y1 := hc 1 _ rfl
      have y2 := hc 2 _ rfl
      have z0 := hc2 0 _ rfl
      have z1 := hc2 1 _ rfl
      have z2 := hc2 2 _ rfl
      simp only [Nat.add_zero] at y0 z0
      obtain ⟨L, hL⟩ : ∃ L, x.co.length = L := ⟨_, rfl⟩
      have hIt := Lib.hid fun W (hb : Below wr.heap.size wr W) => refEqInts_any x.A y.A x.co x.c y.c L W (((hE.out.below hbw).2 x hxm).below hb) (by have := ((hY.out.below hbw).2 y (List.mem_of_getElem? hy)).below hb; rwa [e2] at this) hL (by rw [← hL]; exact hco.out x hxm)
      rw [e1] at z0
      rw [e2, hL] at z1
      rw [e3] at z2
      rw [hL] at y1
      clear hc hc2 hx hy hxm e1 e2 e3 hL
      go_wp2
      apply region_two w 10 12 11 13 (.cells #[.string (ByteArray.mk #[]), .slice none 0 0, .int .i64 0] 73 (0, 0)) (.cells #[.string x.nm, .slice x.A L x.c, .int .i64 x.mo] 73 (0, 0)) (.cells #[.string (ByteArray.mk #[]), .slice none 0 0, .int .i64 0] 73 (0, 0)) (.cells #[.string x.nm, .slice y.A L y.c, .int .i64 x.mo] 73 (0, 0))
      case hm => kernel_rfl
      case hB => kernel_rfl
      case hB' => intro g; kernel_rfl
      case hS => kernel_rfl
      case hN => kernel_rfl
      case hne => decide
      case ht => kernel_rfl
      case ht2 => kernel_rfl
      case hw => exact hbw
      case hal1 => intro o ho; simp at ho; subst ho; intro a x; kernel_rfl
      case hal2 => intro o ho; simp at ho; subst ho; intro a x; kernel_rfl
      case hq =>
        intro g u hu hgc hbx hbX
        have D0 := bk2 (bk_keep hu M0)
        have D1 := bk2 (bk_keep hu M1)
        have y0 := (gcell hu _ _ hbb).trans y0
        have y1 := (gcell hu _ _ hbb).trans y1
        have y2 := (gcell hu _ _ hbb).trans y2
        have z0 := (gcell hu _ _ hbb2).trans z0
        have z1 := (gcell hu _ _ hbb2).trans z1
        have z2 := (gcell hu _ _ hbb2).trans z2
        have hb3 : b < u.heap.size := Nat.lt_of_lt_of_le hbb hu.size
        have hb4 : b2 < u.heap.size := Nat.lt_of_lt_of_le hbb2 hu.size
        simp only [mixL, mkP, yieldsC, List.contains_cons, List.contains_nil, Nat.reduceAdd, Nat.reduceBEq, Nat.zero_add, Bool.or_false, Bool.or_true, Bool.false_or, Bool.true_or, Bool.false_eq_true, if_true, if_false, Bool.or_self]
        repeat (go_big_quiet_step (fail))
        exact wpQuiet_nil rfl
      case hind => intro j hj; simp only [List.mem_cons, List.not_mem_nil, or_false] at hj; rcases hj with rfl | rfl | rfl | rfl <;> (intro g h; kernel_rfl)
      case hs1 =>
        intro o ho g x hx hz
        simp only [List.getElem?_cons_succ, List.getElem?_cons_zero, Option.some.injEq] at ho
        subst ho
        exact ⟨_, run_store3 rfl rfl rfl rfl (by kernel_rfl) (by kernel_rfl) (by kernel_rfl) hz, (((OnlyB.refl _ _).set _ _).set _ _).set _ _, bk_here (bk_here (bk_here hz _ rfl) _ rfl) _ rfl⟩
      case hs2 =>
        intro o ho g x hx hz
        simp only [List.getElem?_cons_succ, List.getElem?_cons_zero, Option.some.injEq] at ho
        subst ho
        exact ⟨_, run_store3 rfl rfl rfl rfl (by kernel_rfl) (by kernel_rfl) (by kernel_rfl) hz, (((OnlyB.refl _ _).set _ _).set _ _).set _ _, bk_here (bk_here (bk_here hz _ rfl) _ rfl) _ rfl⟩
      case hend =>
      intro g u hB1 hB2 hBne hu hbw5 E1 E2
      generalize (g 10).b = B1 at *
      generalize (g 11).b = B2 at *
      have P0 := bk_keep hu M0
      have P1 := bk_keep hu M1
      clear D0 D1 y0 y1 y2 z0 z1 z2 M0 M1 hbw
      have D0 := bk2 P0
      have D1 := bk2 P1
      have C1 := bk3 E1
      have C2 := bk3 E2
      go_wp2_with (go_at_call 47; refine (hIt.out _ hu).mono ?_; rintro e w6 ⟨rfl, hb6⟩; (have hbw6 := via hbw5 hb6); (have Q0 := bk_keep hb6 P0); (have Q1 := bk_keep hb6 P1))
      go_roundw
      case rel => exact ⟨k + 1, by omega, by go_num, Q0, Q1, hbw6⟩
      case measure => first | (simp [intOf]; done) | (simp [intOf]; omega)
    · obtain rfl : en = k := by omega
      go_wp2
      go_ret
      exact ⟨rfl, by go_grown⟩
end Go.Proofs

set_option linter.unusedSimpArgs false
set_option linter.unusedVariables false
namespace Go.Proofs
open Go.RowKit
set_option linter.unusedVariables false
/-! The reference's OnlyErr at right numbers. -/
set_option maxRecDepth 100000 in
set_option maxHeartbeats 4000000 in
theorem refOnly_any (pA eA sA : Option Addr) (pc ec pn en sc sn : Nat) (S : List Nat) (w : World) (hS : At 1 Zc w sA (natZ S)) (hSn : S.length = sn) (hasc : Asc 0 en S) (he : en ≤ 1000) (hs9 : sn ≤ 1000) :
    Calls Tryz.prog 18 #[.agg #[.slice pA pn pc, .slice eA en ec], .slice sA sn sc] w fun e w' => e = .returned (.int .i64 0) ∧ Below w.heap.size w w' := by
  have hS' := Lib.hid hS
  have hSn' := Lib.hid hSn
  have hasc' := Lib.hid hasc
  clear hS hSn hasc
  go_enter Tryz.func18, Tryz.ntmps18
  go_wp2
  go_loopw [5] (fun i wr => ∃ j : Nat, j ≤ sn ∧ i = .int .i64 j ∧ wr.heap[w.heap.size]? = some (.cells #[.slice pA pn pc, .slice eA en ec] 25 (0, 0)) ∧ Below w.heap.size w wr) (fun i _ => sn - (intOf i).toNat)
  case atStart => exact ⟨0, Nat.zero_le _, rfl, by (repeat (first | assumption | (refine bk_new _ _ ?_; (simp; done)) | refine bk_drew ?_ | refine bk_alloc ?_ _ | refine bk_set ?_ (by simp <;> omega) _)), by go_grown⟩
  case round =>
    obtain ⟨j, hj, rfl, M0, hbw⟩ := hrel
    have D0 := bk2 M0
    by_cases hlt : j < sn
    · have hjI : (j : Int) < (sn : Int) := by omega
      have hj00 : (0 : Int) ≤ (j : Int) := by omega
      obtain ⟨i, hi2⟩ : ∃ i, S[j]? = some i := ⟨_, List.getElem?_eq_getElem (by rw [hSn'.out]; exact hlt)⟩
      obtain ⟨b3, o3, eA3, hs3, c4⟩ := zc_cell (hS'.out.below hbw) (k := j) (by rw [natZ, List.length_map, hSn'.out]; exact hlt)
      rw [natZ, List.getD_eq_getElem?_getD, List.getElem?_map, hi2] at c4
      simp only [Option.map_some, Option.getD_some] at c4
      have hie : i < en := (hasc'.out.lt i (List.mem_of_getElem? hi2)).2
      have hwI : within (i : Int) 0 ((en : Int) - 1) = true := within_iff.2 ⟨by omega, by omega⟩
      have hwr : IntKind.i64.wrap ((en : Int) - 1) = (en : Int) - 1 := IntWalk.i64_in _ (by omega)
      have hRW := Lib.hid (show ∀ W, Calls Tryz.prog 25 #[.int .i64 (i : Int), .int .i64 0, .int .i64 ((en : Int) - 1)] W fun e w' => e = .returned (.bool true) ∧ W = w' from fun W => by
        have := refWithin_any (i : Int) 0 ((en : Int) - 1) W
        rwa [hwI] at this)
      clear hwI
      cases j with
      | zero =>
        subst eA3
        simp only [Nat.add_zero] at c4
        clear hi2
        go_wp2
        refine region_all w (by kernel_rfl) (by kernel_rfl) (by go_grown) ?_
        intro hgc hbx
        repeat (go_big_quiet_step ((go_at_call 25; with_reducible exact Grew.call_same (hRW.out _))))
        refine wpQuiet_nil ?_
        intro wb hb_wb hw_wb hs_wb
        clear hgc hbx
        have P0 := bk_keep hb_wb M0
        clear D0
        have D0 := bk2 P0
        have hs4 := hb_wb.size
        have hd0 : decide ((0 : Int) < 0) = false := by decide
        have hd1 : decide ((0 : Nat) < 0) = false := by decide
        go_wp2
        refine region_all w (by kernel_rfl) (by kernel_rfl) (by go_grown) ?_
        intro hgc hbx
        repeat (go_big_quiet_step (fail))
        refine wpQuiet_nil ?_
        intro wc hb_wc hw_wc hs_wc
        clear hgc hbx
        have Q0 := bk_keep hb_wc P0
        go_wp2
        go_roundw
        case rel => exact ⟨1, by omega, by go_num, Q0, hw_wc⟩
        case measure => first | (simp [intOf]; done) | (simp [intOf]; omega)
      | succ j =>
        obtain ⟨i0, hi0⟩ : ∃ i, S[j]? = some i := ⟨_, List.getElem?_eq_getElem (by rw [hSn'.out]; omega)⟩
        obtain ⟨b4, o4, eA4, hs4, c5⟩ := zc_cell (hS'.out.below hbw) (k := j) (by rw [natZ, List.length_map, hSn'.out]; omega)
        rw [natZ, List.getD_eq_getElem?_getD, List.getElem?_map, hi0] at c5
        simp only [Option.map_some, Option.getD_some] at c5
        rw [eA3] at eA4
        cases eA4
        have hlt2 : ¬ (i : Int) ≤ (i0 : Int) := by have := hasc'.out.getE j (j + 1) (by omega) hi0 hi2; omega
        have hlt3 : decide ((i : Int) ≤ (i0 : Int)) = false := by simpa using hlt2
        subst eA3
        clear hi2 hi0
        have hj0 : ¬ (((j + 1 : Nat) : Int) = 0) := by omega
        have hwj : IntKind.i64.wrap (((j + 1 : Nat) : Int) - 1) = (j : Int) := by rw [IntWalk.i64_in _ (by omega)]; omega
        have hwj2 : IntKind.i64.wrap ((j : Int) + 1 - 1) = (j : Int) := by rw [IntWalk.i64_in _ (by omega)]; omega
        go_wp2
        refine region_all w (by kernel_rfl) (by kernel_rfl) (by go_grown) ?_
        intro hgc hbx
        repeat (go_big_quiet_step ((go_at_call 25; with_reducible exact Grew.call_same (hRW.out _))))
        refine wpQuiet_nil ?_
        intro wb hb_wb hw_wb hs_wb
        clear hgc hbx
        have P0 := bk_keep hb_wb M0
        clear D0
        have D0 := bk2 P0
        have hs4 := hb_wb.size
        have hd0 : decide ((0 : Int) < ((j + 1 : Nat) : Int)) = true := by (simp; try omega)
        have hd1 : decide (0 < j + 1) = true := by simp
        have c4' := (gcell hb_wb _ _ hs3).trans c4
        have c5' := (gcell hb_wb _ _ hs3).trans c5
        have hs3' : b3 < wb.heap.size := Nat.lt_of_lt_of_le hs3 hb_wb.size
        clear c4 c5
        go_wp2
        refine region_all w (by kernel_rfl) (by kernel_rfl) (by go_grown) ?_
        intro hgc hbx
        repeat (go_big_quiet_step (fail))
        refine wpQuiet_nil ?_
        intro wc hb_wc hw_wc hs_wc
        clear hgc hbx
        have Q0 := bk_keep hb_wc P0
        go_wp2
        go_roundw
        case rel => exact ⟨j + 1 + 1, by omega, by go_num, Q0, hw_wc⟩
        case measure => first | (simp [intOf]; done) | (simp [intOf]; omega)
    · obtain rfl : sn = j := by omega
      go_wp2
      go_ret
      exact ⟨rfl, by go_grown⟩
end Go.Proofs

set_option linter.unusedSimpArgs false
set_option linter.unusedVariables false
namespace Go.Proofs
open Go.RowKit
set_option linter.unusedVariables false
/-! The text of a certificate. -/
def txMean : List UInt8 := [109, 101, 97, 110]
def txShare : List UInt8 := [115, 104, 97, 114, 101]
/-- The words of a certificate. -/
def certW (nm : List UInt8) (k ag v den lev : Int) (W : List Int) : List (List UInt8) :=
  nm :: ((if k = 1 then [txShare, Lib.itoa ag] else [txMean]) ++ (Lib.itoa v :: Lib.itoa den :: Lib.itoa lev :: W.map Lib.itoa))
structure NumsR (ag v den lev : Int) (W : List Int) : Prop where
  ag : 0 ≤ ag ∧ ag ≤ 400
  v : 0 ≤ v ∧ v ≤ 1000
  den : 1 ≤ den ∧ den ≤ 1000000000000
  lev : lev.natAbs ≤ 1000000000000
  wt : ∀ x ∈ W, 0 ≤ x ∧ x ≤ 1000000000000
  n : W.length ≤ 8
theorem itoa_len13 (n : Int) (h : n.natAbs ≤ 1000000000000) : (Lib.itoa n).length ≤ 14 := (itoa_len 12 n (by omega)).1
theorem certW_words {nm : List UInt8} {k ag v den lev : Int} {W : List Int} (hn : nm.length ≤ 20) (hR : NumsR ag v den lev W) : (certW nm k ag v den lev W).length ≤ 14 ∧ 5 ≤ (certW nm k ag v den lev W).length ∧ ∀ x ∈ certW nm k ag v den lev W, x.length ≤ 20 := by
  have hW8 := hR.n
  unfold certW
  refine ⟨?_, ?_, fun x hx => ?_⟩
  · split <;> simp <;> omega
  · split <;> simp
  · rcases List.mem_cons.1 hx with rfl | hx
    · exact hn
    rcases List.mem_append.1 hx with hx | hx
    · split at hx
      · simp only [List.mem_cons, List.not_mem_nil, or_false] at hx
        rcases hx with rfl | rfl
        · decide
        · have := itoa_len13 ag (by have := hR.ag; omega); omega
      · simp only [List.mem_cons, List.not_mem_nil, or_false] at hx
        subst hx
        decide
    · simp only [List.mem_cons, List.mem_map] at hx
      rcases hx with rfl | rfl | rfl | ⟨y, hy, rfl⟩
      · have := itoa_len13 v (by have := hR.v; omega); omega
      · have := itoa_len13 den (by have := hR.den; omega); omega
      · have := itoa_len13 lev hR.lev; omega
      · have := itoa_len13 y (by have := hR.wt y hy; omega); omega
theorem certW_len {nm : List UInt8} {k ag v den lev : Int} {W : List Int} (hn : nm.length ≤ 20) (hR : NumsR ag v den lev W) : (Lib.join (certW nm k ag v den lev W) [32]).length ≤ 1000 := by
  obtain ⟨h1, -, h2⟩ := certW_words (k := k) hn hR
  have := join_len 20 _ h2
  omega
set_option maxRecDepth 100000 in
set_option maxHeartbeats 2000000 in
theorem formatCert_any (nm : List UInt8) (k ag v den lev : Int) (A : Option Addr) (W : List Int) (wn c : Nat) (w : World) (hnm : nm.length ≤ 20) (hR : NumsR ag v den lev W) (hk : k = 0 ∨ k = 1) (hA : At 1 Zc w A W) (hwn : W.length = wn) (ht : Tabs w) :
    Calls Tryz.prog 11 #[.agg #[.string (bs nm), .int .i64 k, .int .i64 ag, .int .i64 v, .int .i64 den, .int .i64 lev, .slice A wn c]] w fun e w' => e = .returned (.string (bs (Lib.join (certW nm k ag v den lev W) [32]))) ∧ Below w.heap.size w w' := by
  subst hwn
  have hlen := certW_len (k := k) hnm hR
  obtain ⟨hw1, hw2, -⟩ := certW_words (k := k) hnm hR
  have hJ := Lib.hid fun (ws : List Wd) (n B : Nat) (W' : World) (hb : Below w.heap.size w W') (hn : ws.length = n) (hn7 : n ≤ 7) (hws : ws = .s nm :: ((if k = 1 then [.s txShare, .n ag] else [.s txMean]) ++ [.n v, .n den, .n lev, .l A c W])) (vs : Array Value) (hvs : (ws.map Wd.v).toArray = vs) (hc : W'.heap[B]? = some (.cells vs 20 (0, 0))) => by
    have he : ws.flatMap Wd.tx = certW nm k ag v den lev W := by
      rw [hws]
      unfold certW
      split <;> simp [Wd.tx]
    have hmem : ∀ x ∈ ws, x = .s nm ∨ x = .s txShare ∨ x = .s txMean ∨ x = .n ag ∨ x = .n v ∨ x = .n den ∨ x = .n lev ∨ x = .l A c W := fun x hx => by
      rw [hws] at hx
      split at hx
      · simp at hx; rcases hx with h | h | h | h | h | h | h <;> simp [h]
      · simp at hx; rcases hx with h | h | h | h | h | h <;> simp [h]
    have := joined_any B n n ws W' ⟨bk_size hc, fun j x hx => by rw [← hvs] at hc; unfold World.cell?; simp [hc, hx], fun A' c' ns hm => by
      rcases hmem _ hm with h | h | h | h | h | h | h | h <;> cases h
      exact ⟨hA.below hb, fun x hx => by have := hR.wt x hx; omega⟩, fun i hm => by
      rcases hmem _ hm with h | h | h | h | h | h | h | h <;> cases h
      · have := hR.ag; omega
      · have := hR.v; omega
      · have := hR.den; omega
      · have := hR.lev; omega⟩ hn (by omega) (by rw [he]; omega) (by rw [he]; omega) (by rw [he]; omega) (ht.below hb)
    rw [he] at this
    exact this
  obtain ⟨R, hR'⟩ : ∃ R, bs (Lib.join (certW nm k ag v den lev W) [32]) = R := ⟨_, rfl⟩
  rw [hR'] at hJ ⊢
  clear hR hA ht hlen hw1 hw2 hR'
  obtain ⟨wn, hwn⟩ : ∃ n, W.length = n := ⟨_, rfl⟩
  have hwn' := Lib.hid hwn
  rw [hwn]
  clear hwn
  rcases hk with rfl | rfl
  · have hv := Lib.hid (show ([.s nm, .s txMean, .n v, .n den, .n lev, .l A c W].map Wd.v).toArray = #[.iface 9 (.string (bs nm)), .iface 9 (.string ⟨#[109, 101, 97, 110]⟩), .iface 3 (.int .i64 v), .iface 3 (.int .i64 den), .iface 3 (.int .i64 lev), .iface 33 (.slice A wn c)] by simp [Wd.v, hwn'.out, txMean, bs])
    go_enter Tryz.func11, Tryz.ntmps11
    go_wp2_with (go_at_call 38; refine (hJ.out [.s nm, .s txMean, .n v, .n den, .n lev, .l A c W] 6 _ _ (by go_grown) rfl (by omega) (by simp) _ hv.out (bk_new _ _ (by simp))).mono ?_; rintro e w2 ⟨rfl, hb2⟩)
    go_ret
    exact ⟨rfl, via (by go_grown) hb2⟩
  · have hv := Lib.hid (show ([.s nm, .s txShare, .n ag, .n v, .n den, .n lev, .l A c W].map Wd.v).toArray = #[.iface 9 (.string (bs nm)), .iface 9 (.string ⟨#[115, 104, 97, 114, 101]⟩), .iface 3 (.int .i64 ag), .iface 3 (.int .i64 v), .iface 3 (.int .i64 den), .iface 3 (.int .i64 lev), .iface 33 (.slice A wn c)] by simp [Wd.v, hwn'.out, txShare, bs])
    go_enter Tryz.func11, Tryz.ntmps11
    go_wp2_with (go_at_call 38; refine (hJ.out [.s nm, .s txShare, .n ag, .n v, .n den, .n lev, .l A c W] 7 _ _ (by go_grown) rfl (by omega) (by simp) _ hv.out (bk_new _ _ (by simp))).mono ?_; rintro e w2 ⟨rfl, hb2⟩)
    go_ret
    exact ⟨rfl, via (by go_grown) hb2⟩
end Go.Proofs
