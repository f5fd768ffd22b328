import Derived.Test.YtbikblifpfokaaaGreatDoorMg23
import Derived.Test.YtbikblifpfokaaaGreatDoorMg18
import Derived.Test.YtbikblifpfokaaaGreatDoorMg24
import Derived.Test.YtbikblifpfokaaaGreatDoorMg12
import Derived.Test.YtbikblifpfokaaaGreatDoorMg20
import Derived.Test.YtbikblifpfokaaaGreatDoorMg21
set_option linter.unusedSimpArgs false
set_option linter.unusedVariables false
namespace Go.Proofs
open Go.RowKit
set_option maxRecDepth 100000 in
set_option maxHeartbeats 2000000 in
/-- openSheet of a right book and a right sheet. -/
theorem openSheet_ok (mA cA : Option Addr) (mk : List ByteArray) (cl : List Cl) (mc cc : Nat) (bg : Int) (cask : ByteArray) (A : Option Addr) (l : List Int) (c : Nat) (w : World) (hR : RightB mk bg cl) (hat : BkAt w mA mk cA cl) (hmc : mk.length ≤ mc)
    (hcs : cask.size ≤ 1000) (hnm : nm8 cask = true) (hl : l.length ≤ 40) (hal : At 1 Ic w A l) (hok : ∀ x ∈ l, wi mk.length x = true) :
    Calls Tryz.prog 46 #[.agg #[.slice mA mk.length mc, .int .i64 bg, .slice cA cl.length cc], .agg #[.string cask, .slice A l.length c]] w fun e w' => e = .returned (.tuple #[.agg #[.slice mA mk.length mc, .int .i64 bg, .slice cA cl.length cc], .int .i64 0]) ∧ Below w.heap.size w w' := by
  have hO := Lib.hid fun W (hb : Below w.heap.size w W) => open_ok mA cA mk.length mc cl.length cc bg W fun W' hb' => checkBook_ok mA cA mk cl mc cc bg W' hR (hat.below (via hb hb')) hmc
  have hM6 := hR.m1
  have hME := Lib.hid fun W (hb : Below w.heap.size w W) => marksErr_ok A l c mk.length mc cl.length cc mA cA bg W hl (by omega) (hal.below hb) hok
  have hI := Lib.hid fun W => isName_any cask W (by omega)
  unfold nm8 at hnm
  rw [hnm] at hI
  have hU4 := Lib.hid fun W => unless_any true 4 W
  unfold unl at hU4
  simp only [if_true] at hU4
  generalize mk.length = M at *
  generalize cl.length = N at *
  generalize l.length = m at *
  clear hR hat hal hok hnm
  go_enter Tryz.func46, Tryz.ntmps46
  go_wp2_with (go_at_call 23; refine (hO.out _ (by go_grown)).mono ?_; rintro e w1 ⟨rfl, hb1⟩; have hbw := via (by go_grown : Below w.heap.size w _) hb1; have hsw := hbw.size; have E0 : w1.heap[w.heap.size]? = some (.cells #[.slice mA M mc, .int .i64 bg, .slice cA N cc] 25 (0, 0)) := bk_keep hb1 (by (repeat (first | assumption | (refine bk_new _ _ ?_; (simp; done)) | refine bk_drew ?_ | refine bk_alloc ?_ _ | refine bk_set ?_ (by simp <;> omega) _))); have E1 : w1.heap[w.heap.size + 1]? = some (.cells #[.string cask, .slice A m c] 40 (0, 0)) := bk_keep hb1 (by (repeat (first | assumption | (refine bk_new _ _ ?_; (simp; done)) | refine bk_drew ?_ | refine bk_alloc ?_ _ | refine bk_set ?_ (by simp <;> omega) _))); have E2 : w1.heap[w.heap.size + 1 + 1]? = some (.cells #[.slice none 0 0, .int .i64 0, .slice none 0 0] 62 (0, 0)) := bk_keep hb1 (by (repeat (first | assumption | (refine bk_new _ _ ?_; (simp; done)) | refine bk_drew ?_ | refine bk_alloc ?_ _ | refine bk_set ?_ (by simp <;> omega) _))))
  refine wp_world ?_
  intro W hW_W
  have hb_W : Below w.heap.size w W := by rw [hW_W]; go_grown
  have F1 : W.heap[w.heap.size + 1]? = some (.cells #[.string cask, .slice A m c] 40 (0, 0)) := by rw [hW_W]; (repeat (first | assumption | (refine bk_new _ _ ?_; (simp; done)) | refine bk_drew ?_ | refine bk_alloc ?_ _ | refine bk_set ?_ (by simp <;> omega) _))
  have F2 : W.heap[w.heap.size + 1 + 1]? = some (.cells #[.slice none 0 0, .int .i64 0, .slice none 0 0] 62 (0, 0)) := by rw [hW_W]; (repeat (first | assumption | (refine bk_new _ _ ?_; (simp; done)) | refine bk_drew ?_ | refine bk_alloc ?_ _ | refine bk_set ?_ (by simp <;> omega) _))
  have F6 : W.heap[w1.heap.size]? = some (.cells #[.slice mA M mc, .int .i64 bg, .slice cA N cc] 62 (0, 0)) := by rw [hW_W]; (repeat (first | assumption | (refine bk_new _ _ ?_; (simp; done)) | refine bk_drew ?_ | refine bk_alloc ?_ _ | refine bk_set ?_ (by simp <;> omega) _))
  have hWs : W.heap.size = w1.heap.size + 1 := by rw [hW_W]; simp
  have hE := bk_size E2
  obtain ⟨X, hX⟩ : ∃ X, w1.heap.size = X := ⟨_, rfl⟩
  rw [hX] at F6 hWs hE ⊢
  clear hW_W E0 E1 E2 hX
  refine wp_region_any (by kernel_rfl) ?_
  apply any_mck w (fun x => Below w.heap.size w x ∧ x.heap[w.heap.size + 1]? = some (.cells #[.string cask, .slice A m c] 40 (0, 0)) ∧ x.heap[X]? = some (.cells #[.slice mA M mc, .int .i64 bg, .slice cA N cc] 62 (0, 0))) 9 10 11 2 (.int .i64 0) (.cells #[.int .i64 0, .int .i64 0] 31 (0, 0)) (w.heap.size + 1 + 1) (.cells #[.slice none 0 0, .int .i64 0, .slice none 0 0] 62 (0, 0)) (.cells #[.slice mA M mc, .int .i64 bg, .slice cA N cc] 62 (0, 0))
  case hB => kernel_rfl
  case hB' => intro g; kernel_rfl
  case hS => kernel_rfl
  case hN => kernel_rfl
  case hne => decide
  case hkd => intro o ho; simp at ho; subst ho; rfl
  case hd => kernel_rfl
  case hC0 => exact ⟨hb_W, F1, F6⟩
  case hCs => exact fun x x' ⟨h1, h3, h4⟩ hb => ⟨via h1 hb, bk_keep hb h3, bk_keep hb h4⟩
  case hCw => exact fun x h => h.1
  case hCk => exact fun x x' ⟨h1, h3, h4⟩ h => ⟨h1.trans (h.below _ (by omega)), h.keep (by omega) h3, h.keep (by omega) h4⟩
  case hblk => exact F2
  case hmk => exact fun x ⟨_, _, h⟩ => by have := bk_size h; omega
  case hb0 => omega
  case hCb => exact fun x h => by have := bk_size h.2.2; omega
  case hq =>
    rintro g x ⟨h1, h3, h4⟩ hgc hbx hbX
    have u1 := bk2 h3
    have u2 := bk3 h4
    have hx1 := bk_size h3
    have hx2 := bk_size h4
    simp only [mixL, mkCK, yieldsC, List.contains_cons, List.contains_nil, Nat.reduceAdd, Nat.reduceBEq, Nat.reduceEqDiff, Nat.zero_add, Bool.or_false, Bool.or_true, Bool.false_or, Bool.true_or, Bool.false_eq_true, if_true, if_false, Bool.or_self]
    repeat (go_big_quiet_step (first
      | (go_at_call 43; exact Grew.call (hI.out _))
      | (go_at_call 69; exact Grew.call (hME.out _ (hbx.out _)))
      | (go_at_call 32; exact Grew.call_same (hU4.out _))))
    exact wpQuiet_nil rfl
  case hind => intro j hj; simp only [List.mem_cons, List.not_mem_nil, or_false] at hj; rcases hj with rfl | rfl | rfl <;> (intro g h; kernel_rfl)
  case hm1 =>
    intro o ho g x
    simp only [List.getElem?_cons_succ, List.getElem?_cons_zero, Option.some.injEq] at ho
    subst ho
    kernel_rfl
  case hc1 =>
    intro o ho g x hC hz
    simp only [List.getElem?_cons_succ, List.getElem?_cons_zero, Option.some.injEq] at ho
    subst ho
    refine ⟨31, #[.slice (some ⟨(g 9).b, 0, none⟩) 2 2], by kernel_rfl, (first2_any _ _ (bk2 hz).1 (bk2 hz).2.1).mono ?_⟩
    rintro e x' ⟨rfl, rfl⟩
    exact ⟨rfl, Below.refl _ _⟩
  case hk1 =>
    intro o ho g x hC hz
    simp only [List.getElem?_cons_succ, List.getElem?_cons_zero, Option.some.injEq] at ho
    subst ho
    exact ⟨_, run_store3 rfl rfl rfl rfl (by kernel_rfl) (by kernel_rfl) (by kernel_rfl) hz, (((OnlyB.refl _ _).set _ _).set _ _).set _ _, bk_here (bk_here (bk_here hz _ rfl) _ rfl) _ rfl⟩
  case hend =>
    rintro g x ⟨h1, h3, h4⟩ hz
    have R3 := bk3 hz
    go_wp2_with fail
    refine bodyPost_ret (v := .tuple #[.agg #[.slice mA M mc, .int .i64 bg, .slice cA N cc], .int .i64 0]) ?_ rfl ⟨rfl, h1⟩
    simp [results, Tryz.results46, go_sem, R3]
end Go.Proofs

set_option linter.unusedSimpArgs false
set_option linter.unusedVariables false
namespace Go.Proofs
open Go.RowKit

/-- The name of the class to which marks lead. -/
def clN (cl : List Cl) (s : Nat) : ByteArray := match cl[s]? with
  | some x => x.nm
  | none => ⟨#[]⟩
theorem at_int {w : World} {A : Option Addr} {u : List Nat} (h : At 1 Nc w A u) : At 1 Ic w A (u.map fun (a : Nat) => (a : Int)) := by
  intro k x hx
  rw [List.getElem?_map] at hx
  cases hl : u[k]? with
  | none => rw [hl] at hx; cases hx
  | some y =>
    rw [hl] at hx
    simp only [Option.map_some, Option.some.injEq] at hx
    subst hx
    obtain ⟨b, o, hA, hb, hc⟩ := h k y hl
    exact ⟨b, o, hA, hb, fun j v hv => hc j v hv⟩
set_option maxRecDepth 100000 in
set_option maxHeartbeats 2000000 in
/-- ClassOf of a right book and a right sheet. -/
theorem classOf_ok (mA cA : Option Addr) (mk : List ByteArray) (cl : List Cl) (mc cc bg : Nat) (cask : ByteArray) (A : Option Addr) (u : List Nat) (c : Nat) (w : World) (hR : RightB mk bg cl) (hat : BkAt w mA mk cA cl) (hmc : mk.length ≤ mc)
    (hcs : cask.size ≤ 1000) (hnm : nm8 cask = true) (hul : u.length ≤ 40) (hau : At 1 Nc w A u) (hu : ∀ a ∈ u, a < mk.length) :
    Calls Tryz.prog 16 #[.agg #[.slice mA mk.length mc, .int .i64 bg, .slice cA cl.length cc], .agg #[.string cask, .slice A u.length c]] w fun e w' => e = .returned (.tuple #[.string (clN cl (runW (nxC cl) bg u)), .int .i64 0]) ∧ Below w.heap.size w w' := by
  have hbg : bg < cl.length := by
    have h1 := hR.bg
    have h2 := hR.c1
    omega
  obtain ⟨s, hs⟩ : ∃ s, runW (nxC cl) bg u = s := ⟨_, rfl⟩
  have hsN : s < cl.length := by rw [← hs]; exact runW_lt hR u bg hbg hu
  have hlast : ((trail (nxC cl) bg u).flatMap Nc)[u.length]? = some (.int .i64 s) := by
    have := trail_last (nxC cl) bg u
    rw [hs] at this
    exact flatN_get _ _ _ this
  have hOS := Lib.hid fun W (hb : Below w.heap.size w W) => openSheet_ok mA cA mk cl mc cc bg cask A (u.map fun (a : Nat) => (a : Int)) c W hR (hat.below hb) hmc hcs hnm (by rw [List.length_map]; exact hul) (at_int (hau.below hb)) (by
    intro x hx
    obtain ⟨a, ha, rfl⟩ := List.mem_map.1 hx
    have := hu a ha
    unfold wi within
    simp
    omega)
  rw [List.length_map] at hOS
  have hWk := Lib.hid fun W (hb : Below w.heap.size w W) => walk_any mA cA mk cl mc cc bg A u c W hR (hat.below hb) (hau.below hb) hu hul
  obtain ⟨x, hx⟩ : ∃ x, cl[s]? = some x := ⟨_, List.getElem?_eq_getElem hsN⟩
  have hcN : clN cl s = x.nm := by unfold clN; rw [hx]
  rw [hs, hcN]
  obtain ⟨b2, o2, rfl, hb2, hc2⟩ := hat.cls s x hx
  have x0 := hc2 0 (.string x.nm) rfl
  simp only [Nat.add_zero] at x0
  have x0' := Lib.hid x0
  obtain ⟨nm, hnm2⟩ : ∃ n, x.nm = n := ⟨_, rfl⟩
  rw [hnm2] at x0' ⊢
  obtain ⟨XS, hXS⟩ : ∃ XS, (trail (nxC cl) bg u).flatMap Nc = XS := ⟨_, rfl⟩
  rw [hXS] at hWk hlast
  have hlast' := Lib.hid hlast
  generalize mk.length = M at *
  generalize cl.length = N at *
  generalize u.length = m at *
  have hsI : (s : Int) < (N : Int) := by omega
  have hkw : IntKind.i64.wrap (((m + 1 : Nat) : Int) - 1) = (m : Int) := by
    have : ((m + 1 : Nat) : Int) - 1 = (m : Int) := by omega
    rw [this]
    exact IntWalk.i64_in _ (by omega)
  have hkl : (m : Int) < ((m + 1 : Nat) : Int) := by omega
  clear hR hat hau hu hnm hx hcN hc2 x0 hnm2 hXS hlast hs
  go_enter Tryz.func16, Tryz.ntmps16
  go_wp2_with (first
    | (go_at_call 46; refine (hOS.out _ (by go_grown)).mono ?_; rintro e w1 ⟨rfl, hb1⟩; have hbw := via (by go_grown : Below w.heap.size w _) hb1; have hsw := hbw.size; have E0 : w1.heap[w.heap.size]? = some (.cells #[.slice mA M mc, .int .i64 (bg : Int), .slice (some ⟨b2, o2, none⟩) N cc] 25 (0, 0)) := bk_keep hb1 (by (repeat (first | assumption | (refine bk_new _ _ ?_; (simp; done)) | refine bk_drew ?_ | refine bk_alloc ?_ _ | refine bk_set ?_ (by simp <;> omega) _))); have E1 : w1.heap[w.heap.size + 1]? = some (.cells #[.string cask, .slice A m c] 40 (0, 0)) := bk_keep hb1 (by (repeat (first | assumption | (refine bk_new _ _ ?_; (simp; done)) | refine bk_drew ?_ | refine bk_alloc ?_ _ | refine bk_set ?_ (by simp <;> omega) _))); have c1 := bk2 (bk_alloc E1 (.cells #[.slice mA M mc, .int .i64 (bg : Int), .slice (some ⟨b2, o2, none⟩) N cc] 62 (0, 0))))
    | (go_at_call 47; refine (hWk.out _ (by go_grown)).mono ?_; rintro e w2 ⟨⟨v, rfl, hown⟩, hb2'⟩; have hbw2 := via (by go_grown : Below w.heap.size w _) hb2'; have F6 : w2.heap[w1.heap.size]? = some (.cells #[.slice mA M mc, .int .i64 (bg : Int), .slice (some ⟨b2, o2, none⟩) N cc] 62 (0, 0)) := bk_keep hb2' (by (repeat (first | assumption | (refine bk_new _ _ ?_; (simp; done)) | refine bk_drew ?_ | refine bk_alloc ?_ _ | refine bk_set ?_ (by simp <;> omega) _))); obtain ⟨g5, c5, rfl, hg5, hg5s⟩ := hown.form (by omega)))
  have l0 : w2.cell? ⟨g5, m, none⟩ = some (.int .i64 s) := by
    have hnil : XS ++ [] = XS := List.append_nil _
    exact owns_cell (ys := []) (by rw [hnil]; exact hown) rfl rfl hlast'.out
  have x0 := (gcell hbw2 b2 (o2 + s * 3) hb2).trans x0'.out
  have f6 := bk3 F6
  have hx5 : g5 < w2.heap.size := World.block_lt_of_cell? _ _ l0
  have hx2 : b2 < w2.heap.size := Nat.lt_of_lt_of_le hb2 hbw2.size
  have hx6 := bk_size F6
  have hwk := Lib.hid hWk
  clear hown c1 E0 E1 hOS hWk
  refine region_in w2 12 (by kernel_rfl) (by kernel_rfl) (Below.refl _ _) ?_
  intro hgc hbx
  simp only [List.take_succ_cons, List.take_zero, List.drop_succ_cons, List.drop_zero]
  repeat (go_big_quiet_step (fail))
  refine wpQuiet_nil ?_
  intro w3 hb3 _ _
  have hbw3 := via hbw2 hb3
  clear hgc hbx
  go_wp2
  refine bodyPost_ret (v := .tuple #[.string nm, .int .i64 0]) ?_ rfl ⟨rfl, hbw3⟩
  simp [results, Tryz.results16, go_sem]
end Go.Proofs

set_option linter.unusedSimpArgs false
set_option linter.unusedVariables false
namespace Go.Proofs

/-! The plain law of rule books, at the program's own lists. -/
def rkL (cl : List Cl) (i : Nat) : List UInt8 := (rkC cl i).toList
theorem runW_both (cl cl2 : List Cl) : ∀ (u : List Nat) (p : Nat × Nat), runW (bothC cl cl2) p u = (runW (nxC cl) p.1 u, runW (nxC cl2) p.2 u)
  | [], _ => rfl
  | a :: u, p => runW_both cl cl2 u (bothC cl cl2 p a)
theorem dif_rkL (cl cl2 : List Cl) (p : Nat × Nat) : dif cl cl2 p = decide (rkL cl p.1 ≠ rkL cl2 p.2) := by
  unfold dif rkL
  cases h : (rkC cl p.1).toList == (rkC cl2 p.2).toList
  · simpa using h
  · simpa using h
theorem pairs_closed {mk : List ByteArray} {bg bg2 : Int} {cl cl2 : List Cl} (hR : RightB mk bg cl) (hR2 : RightB mk bg2 cl2) : ∀ s ∈ pairsU cl.length cl2.length, ∀ a, a < mk.length → bothC cl cl2 s a ∈ pairsU cl.length cl2.length := by
  intro s hs a ha
  obtain ⟨h1, h2⟩ := mem_pairsU.1 hs
  exact mem_pairsU.2 ⟨nxC_lt hR h1 ha, nxC_lt hR2 h2 ha⟩
theorem alC_iff {mk : List ByteArray} {bg : Int} {cl : List Cl} (hR : RightB mk bg cl) {i k : Nat} (hi : i < cl.length) (hk : k < cl.length) :
    alC mk.length cl i k = true ↔ alike mk.length (nxC cl) (rkL cl) i k := by
  have hf := bfs_find (next := bothC cl cl) (m := mk.length) (b := (i, k)) (pairsU cl.length cl.length) (mem_pairsU.2 ⟨hi, hk⟩) (pairs_closed hR hR) (dif cl cl)
  simp only [runW_both] at hf
  unfold alC alike
  cases ho : (bfsB (bothC cl cl) mk.length (i, k) (pairsU cl.length cl.length).length).find? fun p => dif cl cl p.1 with
  | none =>
    rw [ho] at hf
    have h1 : ((bfsB (bothC cl cl) mk.length (i, k) (pairsU cl.length cl.length).length).any fun p => dif cl cl p.1) = false := by
      rw [List.find?_eq_none] at ho
      rw [List.any_eq_false]
      exact ho
    rw [h1]
    refine ⟨fun _ u hu => ?_, fun _ => rfl⟩
    have := hf u hu
    rw [dif_rkL] at this
    simpa using this
  | some p =>
    rw [ho] at hf
    obtain ⟨h2, -, h3, -⟩ := hf
    have h1 : ((bfsB (bothC cl cl) mk.length (i, k) (pairsU cl.length cl.length).length).any fun p => dif cl cl p.1) = true :=
      List.any_eq_true.2 ⟨p, List.mem_of_find?_eq_some ho, List.find?_some (p := fun (p : (Nat × Nat) × List Nat) => dif cl cl p.1) ho⟩
    rw [h1]
    refine ⟨fun h => by simp at h, fun h => ?_⟩
    have h4 := h p.2 h3
    rw [dif_rkL] at h2
    simp only [ne_eq, decide_eq_true_eq] at h2
    exact absurd h4 h2
theorem findIdx_congr {p q : Nat → Bool} : ∀ (l : List Nat), (∀ x ∈ l, p x = q x) → l.findIdx? p = l.findIdx? q
  | [], _ => rfl
  | x :: l, h => by
    rw [List.findIdx?_cons, List.findIdx?_cons, h x (List.mem_cons_self ..), findIdx_congr l fun y hy => h y (List.mem_cons_of_mem _ hy)]
theorem setsTo_congr {al al' : Nat → Nat → Bool} {n : Nat} (h : ∀ i k, i < n → k < n → al i k = al' i k) : ∀ i, i ≤ n → setsTo al i = setsTo al' i
  | 0, _ => rfl
  | i + 1, hi => by
    have ih := setsTo_congr h i (by omega)
    have hl := (setsTo_lt al' i).2.1
    unfold setsTo
    rw [ih, findIdx_congr (p := fun k => al i k) (q := fun k => al' i k) _ fun x hx => h i x (by omega) (by have := hl x hx; omega)]
open Classical in
theorem stC_iff {mk : List ByteArray} {bg : Int} {cl : List Cl} (hR : RightB mk bg cl) {i k : Nat} (hi : i < cl.length) (hk : k < cl.length) :
    stC mk.length cl i = stC mk.length cl k ↔ alike mk.length (nxC cl) (rkL cl) i k := by
  have hc := setsTo_congr (al := alC mk.length cl) (al' := fun i k => decide (alike mk.length (nxC cl) (rkL cl) i k)) (n := cl.length) (fun i k h1 h2 => by
    have := alC_iff hR h1 h2
    cases ha : alC mk.length cl i k
    · symm
      rw [decide_eq_false_iff_not]
      intro hh
      rw [this.2 hh] at ha
      cases ha
    · symm
      rw [decide_eq_true_eq]
      exact this.1 ha) cl.length (Nat.le_refl _)
  have he := setsTo_eq (al := fun i k => decide (alike mk.length (nxC cl) (rkL cl) i k)) (n := cl.length) (i := i) (k := k)
    (fun i k => by
      rw [decide_eq_decide]
      exact ⟨alike_symm, alike_symm⟩)
    (fun i => by simp [alike_refl])
    (fun i j k h1 h2 => by
      rw [decide_eq_true_eq] at h1 h2 ⊢
      exact alike_trans h1 h2) hi hk
  rw [← hc, decide_eq_true_eq] at he
  rw [← he]
  have hl := (setsTo_lt (alC mk.length cl) cl.length).1
  unfold stC
  rw [List.getD_eq_getElem?_getD, List.getD_eq_getElem?_getD, List.getElem?_eq_getElem (by omega), List.getElem?_eq_getElem (by omega)]
  simp
/-! The class that stands for a set. -/
theorem hdMap_st (st : Nat → Nat) : ∀ (l : List Nat) (D : List (Nat × Nat)), (∀ n h, lkM D n = some h → st h = n) → ∀ n h, lkM (l.foldl (hdStep st) D) n = some h → st h = n
  | [], D, hD, n, h, hh => hD n h hh
  | s :: l, D, hD, n, h, hh => by
    rw [List.foldl_cons] at hh
    refine hdMap_st st l _ ?_ n h hh
    intro n' h' hh'
    unfold hdStep at hh'
    split at hh'
    · rw [lkM_setM] at hh'
      split at hh'
      · rename_i e
        cases hh'
        exact e.symm
      · exact hD _ _ hh'
    · split at hh'
      · rw [lkM_setM] at hh'
        split at hh'
        · rename_i e
          cases hh'
          exact e.symm
        · exact hD _ _ hh'
      · exact hD _ _ hh'
theorem hdStep_some (st : Nat → Nat) (D : List (Nat × Nat)) (s n : Nat) (h : (lkM D n).isSome = true ∨ st s = n) : (lkM (hdStep st D s) n).isSome = true := by
  unfold hdStep
  split
  · rename_i e
    rw [lkM_setM]
    split
    · rfl
    · rename_i ne
      rcases h with h | h
      · exact h
      · exact absurd h.symm ne
  · rename_i x e
    have hs : (lkM D n).isSome = true := by
      rcases h with h | h
      · exact h
      · rw [← h, e]
        rfl
    split
    · rw [lkM_setM]
      split
      · rfl
      · exact hs
    · exact hs
theorem hdMap_some (st : Nat → Nat) (n : Nat) : ∀ (l : List Nat) (D : List (Nat × Nat)), ((lkM D n).isSome = true ∨ ∃ s ∈ l, st s = n) → (lkM (l.foldl (hdStep st) D) n).isSome = true
  | [], D, h => by
    rcases h with h | ⟨s, hs, -⟩
    · exact h
    · cases hs
  | s :: l, D, h => by
    rw [List.foldl_cons]
    refine hdMap_some st n l _ ?_
    rcases h with h | ⟨t, ht, e⟩
    · exact .inl (hdStep_some st D s n (.inl h))
    · rcases List.mem_cons.1 ht with rfl | ht
      · exact .inl (hdStep_some st D _ n (.inr e))
      · exact .inr ⟨t, ht, e⟩
theorem hdC_st {st : Nat → Nat} {l : List Nat} {s : Nat} (hs : s ∈ l) : st (hdC st l (st s)) = st s := by
  have h1 := hdMap_some st (st s) l [] (.inr ⟨s, hs, rfl⟩)
  obtain ⟨h, hh⟩ := Option.isSome_iff_exists.1 h1
  have h2 := hdMap_st st l [] (fun n h hh => by cases hh) (st s) h hh
  unfold hdC hdMap
  rw [hh]
  exact h2
theorem numMap_get : ∀ (n : Nat) (l : List Nat), l.length = n → l.Pairwise (· ≠ ·) → ∀ i x, l[i]? = some x → lkM (numMap l) x = some i
  | 0, l, hn, _, i, x, hx => by
    rw [List.eq_nil_of_length_eq_zero hn] at hx
    cases hx
  | n + 1, l, hn, hp, i, x, hx => by
    have hne : l ≠ [] := fun e => by rw [e] at hn; simp at hn
    obtain ⟨l', a, rfl⟩ : ∃ l' a, l = l' ++ [a] := ⟨l.dropLast, l.getLast hne, (List.dropLast_concat_getLast hne).symm⟩
    rw [List.pairwise_append] at hp
    obtain ⟨p1, -, p3⟩ := hp
    have hl : l'.length = n := by simpa using hn
    rw [numMap_snoc, lkM_setM]
    by_cases hi : i < l'.length
    · rw [List.getElem?_append_left hi] at hx
      rw [if_neg (p3 x (List.mem_of_getElem? hx) a (by simp))]
      exact numMap_get n l' hl p1 i x hx
    · rw [List.getElem?_append_right (by omega)] at hx
      have h0 : i - l'.length = 0 := by
        have := (List.getElem?_eq_some_iff.1 hx).1
        simp at this
        omega
      rw [h0] at hx
      simp at hx
      rw [if_pos hx.symm]
      congr 1
      omega
theorem numC_get {l : List Nat} (hp : l.Pairwise (· ≠ ·)) {i x : Nat} (hx : l[i]? = some x) : numC l x = i := by
  unfold numC
  rw [numMap_get _ l rfl hp i x hx]
  rfl
/-! What a right book's least one is. -/
theorem bg_lt {mk : List ByteArray} {bg : Nat} {cl : List Cl} (hR : RightB mk bg cl) : bg < cl.length := by
  have h1 := hR.bg
  have h2 := hR.c1
  omega
theorem d1_done {mk : List ByteArray} {bg : Nat} {cl : List Cl} (hR : RightB mk bg cl) : ∃ seen, BInv (nxC cl) mk.length bg (bfsB (nxC cl) mk.length bg (List.range cl.length).length) [] seen mk.length :=
  bfsB_done (List.range cl.length) (List.mem_range.2 (bg_lt hR)) (fun s hs a ha => List.mem_range.2 (nxC_lt hR (List.mem_range.1 hs) ha))
theorem d1_mem {mk : List ByteArray} {bg : Nat} {cl : List Cl} (hR : RightB mk bg cl) {u : List Nat} (hu : valid mk.length u) : runW (nxC cl) bg u ∈ d1C mk.length cl bg := by
  obtain ⟨seen, hD⟩ := d1_done hR
  obtain ⟨q, hq, h1, -⟩ := hD.least _ u rfl hu
  unfold d1C
  rw [← h1]
  exact List.mem_map.2 ⟨q, hq, rfl⟩
theorem d1_lt {mk : List ByteArray} {bg : Nat} {cl : List Cl} (hR : RightB mk bg cl) : ∀ s ∈ d1C mk.length cl bg, s < cl.length := by
  intro s hs
  unfold d1C at hs
  obtain ⟨p, hp, rfl⟩ := List.mem_map.1 hs
  exact List.mem_range.1 (bfs_mem (U := List.range cl.length) (List.mem_range.2 (bg_lt hR)) (fun s hs a ha => List.mem_range.2 (nxC_lt hR (List.mem_range.1 hs) ha)) hp)
theorem mini_of {mk : List ByteArray} {bg : Nat} {cl : List Cl} (hR : RightB mk bg cl) :
    Mini mk.length cl.length (nxC cl) (rkL cl) bg (stC mk.length cl) (hdC (stC mk.length cl) (d1C mk.length cl bg)) where
  pb := bg_lt hR
  pnx := fun s hs a ha => nxC_lt hR hs ha
  pst := fun i k hi hk => stC_iff hR hi hk
  phd := fun u hu => ⟨hdC_lt hR.c1.1 (d1_lt hR) _, hdC_st (d1_mem hR hu)⟩
theorem d2_done {mk : List ByteArray} {bg : Nat} {cl : List Cl} (hR : RightB mk bg cl) :
    ∃ seen, BInv (nxL mk.length cl bg) mk.length (stC mk.length cl bg) (bfsB (nxL mk.length cl bg) mk.length (stC mk.length cl bg) (List.range cl.length).length) [] seen mk.length :=
  bfsB_done (List.range cl.length) (List.mem_range.2 (stC_lt _ _ _ hR.c1.1)) (fun s hs a ha => List.mem_range.2 (stC_lt _ _ _ hR.c1.1))
def d2P (m : Nat) (cl : List Cl) (b : Nat) : List (Nat × List Nat) := bfsB (nxL m cl b) m (stC m cl b) (List.range cl.length).length
theorem d2_one {mk : List ByteArray} {bg : Nat} {cl : List Cl} (hR : RightB mk bg cl) : (d2C mk.length cl bg).Pairwise (· ≠ ·) := by
  obtain ⟨seen, hD⟩ := d2_done hR
  have h := hD.one
  rw [List.append_nil] at h
  unfold d2C
  rw [List.pairwise_map]
  exact h
theorem d2_len {mk : List ByteArray} {bg : Nat} {cl : List Cl} (hR : RightB mk bg cl) : (d2C mk.length cl bg).length ≤ cl.length := by
  obtain ⟨seen, hD⟩ := d2_done hR
  have h := hD.len (List.range cl.length) (List.mem_range.2 (stC_lt _ _ _ hR.c1.1)) (fun s hs a ha => List.mem_range.2 (stC_lt _ _ _ hR.c1.1))
  rw [List.append_nil] at h
  unfold d2C
  rw [List.length_map]
  exact Nat.le_trans h (by simp)
theorem d2_first {mk : List ByteArray} {bg : Nat} {cl : List Cl} (hR : RightB mk bg cl) : (d2C mk.length cl bg)[0]? = some (stC mk.length cl bg) := by
  have hn := hR.c1.1
  unfold d2C bfsB
  rw [List.length_range]
  obtain ⟨n, hn'⟩ : ∃ n, cl.length = n + 1 := ⟨cl.length - 1, by omega⟩
  rw [hn']
  rfl
/-- Every class of the least book stands for one of a set that is reached. -/
theorem d2_reach {mk : List ByteArray} {bg : Nat} {cl : List Cl} (hR : RightB mk bg cl) {i x : Nat} (hx : (d2C mk.length cl bg)[i]? = some x) : ∃ u, valid mk.length u ∧ x = stC mk.length cl (runW (nxC cl) bg u) := by
  obtain ⟨seen, hD⟩ := d2_done hR
  unfold d2C at hx
  obtain ⟨p, hp, rfl⟩ := List.mem_map.1 (List.mem_of_getElem? hx)
  obtain ⟨h1, h2⟩ := hD.run p (by simpa using hp)
  refine ⟨p.2, h2, ?_⟩
  rw [← h1]
  exact (mini_of hR).runS _ p.2 rfl h2
end Go.Proofs
