import Derived.Test.YtpmliaildjomeaaGreatDoorMg38
import Derived.Test.YtpmliaildjomeaaGreatDoorMg16
import Derived.Test.YtpmliaildjomeaaGreatDoorMg36
import Derived.Test.YtpmliaildjomeaaGreatDoorMg37
set_option linter.unusedSimpArgs false
set_option linter.unusedVariables false
namespace Go.Proofs
open Go.RowKit
set_option linter.unusedVariables false
/-! Parse of what Print wrote. -/
theorem bookOf {w : World} {base m c c2 n2 : Nat} {A A2 : Option Addr} {ps : List Pa} {ys : List En} (h : w.ownsRow base 71 5 (.slice A m c) m (ps.flatMap Pa.cs)) (h2 : EnTy w base (.slice A2 n2 c2) ys) (hm : ps.length = m) (hn : ys.length = n2) : BookAt w A c ps A2 c2 ys := by
  subst hm
  subst hn
  have hc := own_le2 h
  have hc2 := own_le2 h2.own
  refine ⟨?_, ⟨?_, fun x hx => (h2.row x hx).1⟩, hc, hc2, fun x hx => (h2.row x hx).2.1⟩
  · obtain ⟨A', c', e', h1⟩ := at_of_owns (cs := Pa.cs) (sz := 5) (fun _ => rfl) h
    cases e'
    exact h1
  · obtain ⟨A', c', e', h1⟩ := at_of_owns (cs := En.cs) (sz := 3) (fun _ => rfl) h2.own
    cases e'
    exact h1
theorem results_cell2tt {P : Program} {fn : Func} {p u v : Tmp} {ty : TypeId} (h : fn.results = #[.cell p ty, .tmp u, .tmp v]) {tmps : Array Value} {w : World} {ad : Addr} {x : Value} (ht : tmps.getD p undef = .pointer (some ad)) (hl : (loadVar ty ad).run P w = .ok x w) : (results fn tmps).run P w = .ok (.tuple #[x, tmps.getD u undef, tmps.getD v undef]) w := by
  unfold results
  rw [h]
  simp only [List.mapM_toArray, List.mapM_cons, List.mapM_nil, ht, Sem.run_bind, Sem.run_pure, run_asAddr, Result.andThen_ok, hl, bind_assoc, pure_bind, map_eq_pure_bind]
  rfl
set_option maxRecDepth 100000 in
theorem asNil (v : Value) (w : World) : Calls Tryz.prog 45 #[.nilIface, v] w fun e w' => e = .returned (.bool false) ∧ w = w' := by
  have hnl : ∀ W, (binOp .eql 95 .nilIface .nilIface).run Tryz.prog W = .ok (.bool true) W := fun W => by kernel_rfl
  go_enter Tryz.func45, Tryz.ntmps45
  go_wp2
  go_ret
  exact ⟨rfl, rfl⟩
set_option maxRecDepth 100000 in
set_option maxHeartbeats 4000000 in
theorem parse_any (ps : List Pa) (es : List En) (w : World) (hR : BookR ps es) (ht : Tabs w) :
    Calls Tryz.prog 15 #[.string (bs (bookT ps es))] w fun e w' => (∃ A c A2 c2 ys, e = .returned (.tuple #[.agg #[.slice A ps.length c, .slice A2 es.length c2], .int .i64 0, .int .i64 0]) ∧ ys.length = es.length ∧ ys.map En.sig = es.map En.sig ∧ BookAt w' A c ps A2 c2 ys ∧ (A = none → c = 0)) ∧ Below w.heap.size w w' := by
  have hT := bookT_len hR
  have hn5 := hR.n5
  have he8 := hR.e8
  have hLn := Lib.hid fun W (hb : Below w.heap.size w W) => lines_any ps es ps.length W (fun p hp => hR.pa hp) (fun x hx => hR.en hx) ⟨hR.n1, hR.n5⟩ (by omega) (by omega) (by omega) (ht.below hb)
  have hpn9 : ∀ p ∈ ps, p.nm.size ≤ 1000 := fun p hp => by
    have h1 := name_len (hR.pa hp).nm
    have h2 : p.nm.data.toList.length = p.nm.size := (by simp)
    omega
  have hBE := Lib.hid fun (A : Option Addr) (c : Nat) (A2 : Option Addr) (c2 : Nat) (ys : List En) (W : World) (hl : ys.length = es.length) (hs : ys.map En.sig = es.map En.sig) (hB : BookAt W A c ps A2 c2 ys) =>
    show Calls Tryz.prog 40 #[.agg #[.slice A ps.length c, .slice A2 es.length c2]] W fun e w' => e = .returned (.int .i64 0) ∧ Below W.heap.size W w' from (by
    have hR2 := hR.sig hs
    have hen9 : ∀ x ∈ ys, x.nm.size ≤ 1000 := fun x hx => by
      have h1 := name_len (hR2.en hx).nm
      have h2 : x.nm.data.toList.length = x.nm.size := (by simp)
      omega
    have hco9 : ∀ x ∈ ys, x.co.length ≤ 1000 := fun x hx => by
      have h1 := (hR2.en hx).len
      omega
    have := bookErr_any A A2 c c2 ps.length es.length ps ys W hB ⟨by omega, by omega, hpn9, hen9, hco9⟩ rfl hl
    rw [bookR_iff.2 hR2] at this
    exact this)
  obtain ⟨S, hS⟩ : ∃ S, bs (bookT ps es) = S := ⟨_, rfl⟩
  have hSs : S.size ≤ 2000 := by rw [← hS, bs_size]; exact hT
  have hSI : ¬ (60000 : Int) < (S.size : Int) := by omega
  rw [hS] at hLn ⊢
  obtain ⟨pn, hpn⟩ : ∃ n, ps.length = n := ⟨_, rfl⟩
  obtain ⟨en, hen⟩ : ∃ n, es.length = n := ⟨_, rfl⟩
  rw [hpn, hen] at hLn hBE ⊢
  have hpn' := Lib.hid hpn
  clear hT hS ht hR hpn hen
  go_enter Tryz.func15, Tryz.ntmps15
  go_wp2_with (first
    | (go_at_call 44; refine (hLn.out _ (by go_grown)).mono ?_; rintro e w2 ⟨⟨A, c, A2, c2, ys, rfl, hyl, hys, hO, hE⟩, hb2⟩; (have M0 := bk_keep hb2 (bk_new w (.cells #[.slice none 0 0, .slice none 0 0] 25 (0, 0)) rfl)); (have hbw2 := via (new_below _ _) hb2); (have D0 := bk2 M0); (have hyl' := Lib.hid hyl); (have hys' := Lib.hid hys); (have M0' := Lib.hid M0); (have hO' := Lib.hid hO); (have hE' := Lib.hid hE); (have hB2 := Lib.hid (show BookAt w2 A c ps A2 c2 ys from (bookOf hO hE hpn'.out hyl))); (have hnl := Lib.hid (own_nil hO)); clear hyl hys hO hE)
    | (go_at_call 45; refine (asNil _ _).mono ?_; rintro e w' ⟨rfl, rfl⟩)
    | (go_at_call 40; refine (hBE.out A c A2 c2 ys _ hyl'.out hys'.out (hB2.out.below (by go_grown))).mono ?_; rintro e w4 ⟨rfl, hb4⟩; (have hbw4 := via hbw2 (via (by go_grown : Below w2.heap.size w2 _) hb4)); (have L0 := bk2 (bk_keep hb4 (bk_alloc (bk_new w2 (.cells #[.slice A pn c, .slice A2 en c2] 25 (0, 0)) rfl) (.cells #[.int .i64 0] 102 (0, 0))))); (have M4 := bk_keep hb4 (bk_alloc (bk_alloc M0 (.cells #[.slice A pn c, .slice A2 en c2] 25 (0, 0))) (.cells #[.int .i64 0] 102 (0, 0)))); (have D0 := bk2 M4); (have hb4' := Lib.hid hb4); (have hB4 := Lib.hid ((hB2.out.below (by go_grown : Below w2.heap.size w2 _)).below hb4))))
  obtain ⟨W9, hW9⟩ : ∃ W9, ((w4.setCell ⟨w.heap.size, 0, none⟩ (.slice A pn c)).setCell ⟨w.heap.size, 1, none⟩ (.slice A2 en c2)) = W9 := ⟨_, rfl⟩
  have hoth : ∀ k, k ≠ w.heap.size → W9.heap[k]? = w4.heap[k]? := fun k k1 => by
    rw [← hW9, Below.heap_setCell _ _ _ _ (by dsimp only; exact k1), Below.heap_setCell _ _ _ _ (by dsimp only; exact k1)]
  have z0 : W9.heap[w.heap.size]? = some (.cells #[.slice A pn c, .slice A2 en c2] 25 (0, 0)) := by rw [← hW9]; exact bk_here (bk_here M4 _ rfl) _ rfl
  have hb9 : Below w.heap.size w W9 := by rw [← hW9]; exact (hbw4.setCell (by dsimp only; omega) _).setCell (by dsimp only; omega) _
  have hkp : ∀ (k : Nat) (cur : Array Value) (T : TypeId) (fr : Nat × Nat), w2.heap[k]? = some (.cells cur T fr) → T ≠ 25 → W9.heap[k]? = w2.heap[k]? := fun k cur T fr h h1 => by
    rw [hoth k (by
      rintro rfl
      rw [M0'.out] at h
      cases h
      exact h1 rfl), h]
    exact bk_keep hb4'.out (bk_alloc (bk_alloc h _) _)
  have hkO : ∀ {e : TypeId} {sz n base : Nat} {v : Value} {zs : List Value}, w2.ownsRow base e sz v n zs → e ≠ 25 → ∀ g, v.ownBlock = some g → W9.heap[g]? = w2.heap[g]? := fun {e sz n base v zs} h h1 g eg => by
    rcases h.2 with ⟨rfl, -⟩ | ⟨g', cap, cur, rfl, -, hg3, -⟩
    · cases eg
    · have e3 : g' = g := Option.some.inj eg
      subst e3
      exact hkp _ _ _ _ hg3 h1
  have o9 := owns_kept hO'.out (hkO hO'.out (by decide))
  have e9 := hE'.out.kept2 (hkO hE'.out.own (by decide)) fun y hy g e => by
    obtain ⟨cur, fr, hc⟩ := (hE'.out.row y hy).2.2 g e
    exact hkp _ _ _ _ hc (by decide)
  rw [hW9]
  refine bodyPost_ret (v := .tuple #[.agg #[.slice A pn c, .slice A2 en c2], .int .i64 0, .int .i64 0]) ?_ rfl ⟨⟨A, c, A2, c2, ys, rfl, hyl'.out, hys'.out, bookOf o9 e9 hpn'.out hyl'.out, own_nil hO'.out⟩, hb9⟩
  exact results_cell2tt (p := 2) (u := 3) (v := 4) (ad := ⟨w.heap.size, 0, none⟩) rfl (by rfl) (run_loadBlock (T := 25) (cs := [.slice A pn c, .slice A2 en c2]) (by kernel_rfl) (by kernel_rfl) z0)
end Go.Proofs

set_option linter.unusedSimpArgs false
set_option linter.unusedVariables false
namespace Go.Proofs
open Go.RowKit
set_option linter.unusedVariables false
/-! The document's example: Old. -/
def oldP : List Pa := [⟨bs [97], 10, 12, 5, 6⟩, ⟨bs [98], 50, 60, 1, 2⟩]
def oldE (B : Option Addr) : List En := [⟨bs [104, 97, 108, 102], B, 2, [0, -2], -1⟩]
theorem old_right (B : Option Addr) : BookR oldP (oldE B) := by
  have h : BookR oldP (oldE none) := bookR_iff.1 (by decide +kernel)
  exact h.sig rfl
theorem old_solved (B : Option Addr) : solvedL oldP.length (exs (oldE B)) (worthL oldP 0 0) = some ([1, 1], 2, ⟨1, 10, [20]⟩) := by
  show solvedL 2 [([0, -2], -1)] [10, 50] = some ([1, 1], 2, ⟨1, 10, [20]⟩)
  kernel_rfl
set_option maxRecDepth 100000 in
set_option maxHeartbeats 4000000 in
theorem old_any (w : World) : Calls Tryz.prog 24 #[] w fun e w' => (∃ A A2 B, e = .returned (.agg #[.slice A 2 2, .slice A2 1 1]) ∧ BookAt w' A 2 oldP A2 1 (oldE B) ∧ ∀ g, A = some g → w.heap.size ≤ g.block) ∧ Below w.heap.size w w' := by
  go_enter Tryz.func24, Tryz.ntmps24
  go_wp2
  obtain ⟨W, hW⟩ : ∃ W, (((w.alloc (.cells #[.slice (some ⟨(w.heap.size + 1), 0, none⟩) 2 2, .slice (some ⟨(w.heap.size + 1 + 1 + 1), 0, none⟩) 1 1] 25 (0, 0))).alloc (.cells #[.string (bs [97]), .int .i64 10, .int .i64 12, .int .i64 5, .int .i64 6, .string (bs [98]), .int .i64 50, .int .i64 60, .int .i64 1, .int .i64 2] 71 (0, 0))).alloc (.cells #[.int .i64 0, .int .i64 (-2)] 3 (0, 0))).alloc (.cells #[.string (bs [104, 97, 108, 102]), .slice (some ⟨(w.heap.size + 1 + 1), 0, none⟩) 2 2, .int .i64 (-1)] 73 (0, 0)) = W := ⟨_, rfl⟩
  have N0 : W.heap[w.heap.size]? = some (.cells #[.slice (some ⟨(w.heap.size + 1), 0, none⟩) 2 2, .slice (some ⟨(w.heap.size + 1 + 1 + 1), 0, none⟩) 1 1] 25 (0, 0)) := by rw [← hW]; (repeat (first | assumption | (refine bk_new _ _ ?_; (simp; done)) | refine bk_drew ?_ | refine bk_alloc ?_ _ | refine bk_set ?_ (by simp <;> omega) _))
  have N1 : W.heap[(w.heap.size + 1)]? = some (.cells #[.string (bs [97]), .int .i64 10, .int .i64 12, .int .i64 5, .int .i64 6, .string (bs [98]), .int .i64 50, .int .i64 60, .int .i64 1, .int .i64 2] 71 (0, 0)) := by rw [← hW]; (repeat (first | assumption | (refine bk_new _ _ ?_; (simp; done)) | refine bk_drew ?_ | refine bk_alloc ?_ _ | refine bk_set ?_ (by simp <;> omega) _))
  have N2 : W.heap[(w.heap.size + 1 + 1)]? = some (.cells #[.int .i64 0, .int .i64 (-2)] 3 (0, 0)) := by rw [← hW]; (repeat (first | assumption | (refine bk_new _ _ ?_; (simp; done)) | refine bk_drew ?_ | refine bk_alloc ?_ _ | refine bk_set ?_ (by simp <;> omega) _))
  have N3 : W.heap[(w.heap.size + 1 + 1 + 1)]? = some (.cells #[.string (bs [104, 97, 108, 102]), .slice (some ⟨(w.heap.size + 1 + 1), 0, none⟩) 2 2, .int .i64 (-1)] 73 (0, 0)) := by rw [← hW]; (repeat (first | assumption | (refine bk_new _ _ ?_; (simp; done)) | refine bk_drew ?_ | refine bk_alloc ?_ _ | refine bk_set ?_ (by simp <;> omega) _))
  have hbW : Below w.heap.size w W := by rw [← hW]; go_grown
  have o1 : W.ownsRow w.heap.size 71 5 (.slice (some ⟨(w.heap.size + 1), 0, none⟩) 2 2) 2 (oldP.flatMap Pa.cs) := ⟨rfl, .inr ⟨(w.heap.size + 1), 2, _, rfl, by omega, N1, by omega, by unfold maxLen; omega, rfl, rfl⟩⟩
  have o2 : W.ownsRow w.heap.size 3 1 (.slice (some ⟨(w.heap.size + 1 + 1), 0, none⟩) 2 2) 2 (([0, -2] : List Int).flatMap Zc) := ⟨rfl, .inr ⟨(w.heap.size + 1 + 1), 2, _, rfl, by omega, N2, by omega, by unfold maxLen; omega, rfl, rfl⟩⟩
  have o3 : W.ownsRow w.heap.size 73 3 (.slice (some ⟨(w.heap.size + 1 + 1 + 1), 0, none⟩) 1 1) 1 ((oldE (some ⟨(w.heap.size + 1 + 1), 0, none⟩)).flatMap En.cs) := ⟨rfl, .inr ⟨(w.heap.size + 1 + 1 + 1), 1, _, rfl, by omega, N3, by omega, by unfold maxLen; omega, rfl, rfl⟩⟩
  have hB : BookAt W (some ⟨(w.heap.size + 1), 0, none⟩) 2 oldP (some ⟨(w.heap.size + 1 + 1 + 1), 0, none⟩) 1 (oldE (some ⟨(w.heap.size + 1 + 1), 0, none⟩)) := bookOf o1 ⟨o3, fun x hx => by
    obtain rfl := List.mem_singleton.1 hx
    exact ⟨own_at o2 rfl, own_nil o2, fun g e => by cases e; exact ⟨_, _, N2⟩⟩⟩ rfl rfl
  have hs2 : ∀ x, (sizeOf 25).run Tryz.prog x = .ok 2 x := fun x => by kernel_rfl
  have ha2 : ∀ x, (isAgg 25).run Tryz.prog x = .ok true x := fun x => by kernel_rfl
  refine bodyPost_ret (v := .agg #[.slice (some ⟨(w.heap.size + 1), 0, none⟩) 2 2, .slice (some ⟨(w.heap.size + 1 + 1 + 1), 0, none⟩) 1 1]) ?_ rfl ⟨⟨some ⟨(w.heap.size + 1), 0, none⟩, some ⟨(w.heap.size + 1 + 1 + 1), 0, none⟩, some ⟨(w.heap.size + 1 + 1), 0, none⟩, rfl, by rw [← hW] at hB; exact hB, fun g e => by cases e; dsimp only; omega⟩, by rw [← hW] at hbW; exact hbW⟩
  rw [← hW] at N0
  exact results_cell1 (p := 0) (ad := ⟨w.heap.size, 0, none⟩) rfl (by rfl) (run_loadBlock (T := 25) (cs := [.slice (some ⟨(w.heap.size + 1), 0, none⟩) 2 2, .slice (some ⟨(w.heap.size + 1 + 1 + 1), 0, none⟩) 1 1]) (ha2 _) (hs2 _) N0)
end Go.Proofs

set_option linter.unusedSimpArgs false
set_option linter.unusedVariables false
namespace Go.Proofs
open Go.RowKit
set_option linter.unusedVariables false
/-! The document's example: certified. -/
def oldN : List UInt8 := [111, 108, 100, 49]
theorem old_few (B : Option Addr) : FewB oldP (oldE B) := by
  refine ⟨by decide, show 1 ≤ 1000 by decide, by decide +kernel, fun x hx => ?_, fun x hx => ?_⟩
  · obtain rfl := List.mem_singleton.1 hx
    show (bs [104, 97, 108, 102]).size ≤ 1000
    decide +kernel
  · obtain rfl := List.mem_singleton.1 hx
    show ([0, -2] : List Int).length ≤ 1000
    decide
theorem old_nums : NumsR 0 30 1 10 [20] := ⟨by decide, by decide, by decide, by decide, by decide, by decide⟩
theorem old_least {B : Option Addr} {n0 : Nat} {e : Ending} {w' : World} (h : LeGot oldP (oldE B) 0 0 n0 e w') : ∃ A c A2 c2, e = .returned (.tuple #[.agg #[.int .i64 30, .int .i64 1, .int .i64 2, .slice A 2 c, .int .i64 1, .int .i64 10, .slice A2 1 c2], .int .i64 0]) := by
  unfold LeGot at h
  have h1 : bothE oldP (oldE B) 0 0 = 0 := bothE_zero.2 ⟨old_right B, askE_zero.2 (by decide)⟩
  rw [h1, if_neg (by simp), old_solved] at h
  obtain ⟨A, c, A2, c2, rfl, -⟩ := h
  have e1 : dotL (worthL oldP 0 0) [1, 1] / lowG (dotL (worthL oldP 0 0) [1, 1]) 2 = 30 := by decide +kernel
  have e2 : 2 / lowG (dotL (worthL oldP 0 0) [1, 1]) 2 = 1 := by decide +kernel
  dsimp only at *
  rw [e1, e2]
  exact ⟨A, c, A2, c2, rfl⟩
theorem old_check (B : Option Addr) : checkE oldP (oldE B) (bs oldN) 0 0 30 1 10 [20] = 0 := by
  have hx : exs (oldE B) = exs (oldE none) := rfl
  refine checkE_zero (old_right B) (by decide +kernel) (askE_zero.2 (by decide)) (by decide) ?_ ?_ ?_
  · exact weightR_iff.1 (show weightE 1 1 10 [20] = 0 by decide +kernel)
  · rw [hx]
    decide +kernel
  · rw [hx]
    decide +kernel
theorem old_text : bs (Lib.join (certW oldN 0 0 30 1 10 [20]) [32]) = ByteArray.mk #[111, 108, 100, 49, 32, 109, 101, 97, 110, 32, 51, 48, 32, 49, 32, 49, 48, 32, 50, 48] := by
  have h : Lib.join (certW oldN 0 0 30 1 10 [20]) [32] = [111, 108, 100, 49, 32, 109, 101, 97, 110, 32, 51, 48, 32, 49, 32, 49, 48, 32, 50, 48] := by decide +kernel
  rw [h]
  rfl
set_option maxRecDepth 100000 in
set_option maxHeartbeats 4000000 in
theorem certified_any (w : World) (ht : Tabs w) : Calls Tryz.prog 4 #[] w fun e w' => e = .returned (.bool true) ∧ Below w.heap.size w w' := by
  have hOl := Lib.hid fun W => old_any W
  have hLe := Lib.hid fun W A A2 B (hB : BookAt W A 2 oldP A2 1 (oldE B)) => (least_any A A2 2 1 2 1 oldP (oldE B) 0 0 W hB (old_few B) rfl rfl).mono fun e w' h => (⟨old_least h.1, h.2⟩ : (∃ A c A2 c2, e = .returned (.tuple #[.agg #[.int .i64 30, .int .i64 1, .int .i64 2, .slice A 2 c, .int .i64 1, .int .i64 10, .slice A2 1 c2], .int .i64 0])) ∧ Below W.heap.size W w')
  have hPa := Lib.hid fun W (hb : Below w.heap.size w W) => parseMean_any oldN 30 1 10 [20] 1 W (by decide) (by decide +kernel) old_nums rfl (ht.below hb)
  rw [old_text] at hPa
  have hCk := Lib.hid fun W A A2 B C c (hB : BookAt W A 2 oldP A2 1 (oldE B)) (hC : At 1 Zc W C [20]) => checkCert_any A A2 C 2 1 2 1 c 1 oldP (oldE B) (bs oldN) 0 0 30 1 10 [20] W hB (old_few B) rfl rfl (by decide +kernel) hC rfl (by decide)
  have hs7 : ∀ x, (sizeOf 37).run Tryz.prog x = .ok 7 x := fun x => by kernel_rfl
  clear ht
  go_enter Tryz.func4, Tryz.ntmps4
  go_wp2_with (first
    | (go_at_call 24; refine (hOl.out _).mono ?_; rintro e w1 ⟨⟨A, A2, B, rfl, hB, -⟩, hb1⟩; (have hB' := Lib.hid hB); clear hB)
    | (go_at_call 23; refine (hLe.out _ A A2 B hB'.out).mono ?_; rintro e w2 ⟨⟨A3, c3, A4, c4, rfl⟩, hb2⟩; (have hbw2 : Below w.heap.size w w2 := via hb1 hb2); clear hb1 hb2)
    | (go_at_call 10; refine (hPa.out _ (via hbw2 (new_below _ _))).mono ?_; rintro e w3 ⟨⟨C, c, rfl, hC⟩, hb3⟩; (have hC' := Lib.hid hC); clear hC))
  have hbw3 := via hbw2 (via (new_below _ _) hb3)
  have M0 := bk_keep hb3 (bk_new w2 (.cells #[.int .i64 30, .int .i64 1, .int .i64 2, .slice A3 2 c3, .int .i64 1, .int .i64 10, .slice A4 1 c4] 64 (0, 0)) rfl)
  clear hb3
  refine wp_world ?_
  intro x hx
  have X0 : x.heap[w2.heap.size]? = some (.cells #[.int .i64 30, .int .i64 1, .int .i64 2, .slice A3 2 c3, .int .i64 1, .int .i64 10, .slice A4 1 c4] 64 (0, 0)) := by rw [hx]; exact bk_alloc M0 _
  have X1 : x.heap[w3.heap.size]? = some (.cells #[.string (bs oldN), .int .i64 0, .int .i64 0, .int .i64 30, .int .i64 1, .int .i64 10, .slice C 1 c] 37 (0, 0)) := by rw [hx]; exact bk_new w3 _ rfl
  have hbx : Below w.heap.size w x := by rw [hx]; exact via hbw3 (new_below _ _)
  have hCx := Lib.hid (show At 1 Zc x C [20] by rw [hx]; exact hC'.out.below (new_below _ _))
  clear hx hC' M0
  refine wp_region_any (by kernel_rfl) ?_
  apply any_mixG w (fun y => Below x.heap.size x y) [13, 15] (fun j g => if j = 13 then .agg #[.slice g.a1 2 2, .slice g.a2 1 1] else .int .i64 0)
    (fun L g y => L 13 = true → ∃ B, BookAt y (g 13).a1 2 oldP (g 13).a2 1 (oldE B))
  case hB => kernel_rfl
  case hB' => intro g; kernel_rfl
  case hS => kernel_rfl
  case hN => kernel_rfl
  case hC0 => exact Below.refl _ _
  case hCs => exact fun y y' h hb => h.trans (hb.mono h.size)
  case hCw => exact fun y h => via hbx h
  case h0 => intro L h h13; rw [h 13 (by simp)] at h13; cases h13
  case hst => intro L L' g y y' h hJ hb h13; obtain ⟨B, hB⟩ := hJ (by rw [← h 13 (by simp)]; exact h13); exact ⟨B, hB.below hb⟩
  case hq =>
    have hEq : ∀ W, (binOp .eql 60 (.agg #[.int .i64 30, .int .i64 1]) (.agg #[.int .i64 30, .int .i64 1])).run Tryz.prog W = .ok (.bool true) W := fun W => by kernel_rfl
    intro g u hu hgc hbx hbX
    have D0 := bk7 (bk_keep hu X0)
    have D1 := bk7 (bk_keep hu X1)
    simp only [mixL, yieldsC, List.contains_cons, List.contains_nil, Nat.reduceAdd, Nat.reduceBEq, Nat.zero_add, Bool.or_false, Bool.or_true, Bool.false_or, Bool.true_or, Bool.false_eq_true, if_true, if_false, Bool.or_self, Nat.reduceEqDiff]
    repeat (go_big_quiet_step (fail))
    exact wpQuiet_nil rfl
  case hind =>
    intro j hj
    simp only [List.mem_cons, List.not_mem_nil, or_false] at hj
    rcases hj with rfl | rfl <;> (intro g h; kernel_rfl)
  case hwa =>
    intro g j hj
    simp only [List.mem_cons, List.not_mem_nil, or_false] at hj
    rcases hj with rfl | rfl <;> (intro o ho; simp only [List.getElem?_toArray, List.getElem?_cons_succ, List.getElem?_cons_zero, Option.some.injEq] at ho; subst ho; kernel_rfl)
  case hsp =>
    intro j hj o ho L g y hJ hC hb0 hL hafter hclo
    simp only [List.mem_cons, List.not_mem_nil, or_false] at hj
    rcases hj with rfl | rfl
    · simp only [List.getElem?_cons_succ, List.getElem?_cons_zero, Option.some.injEq] at ho
      subst ho
      refine does_enter (by kernel_rfl) ((hOl.out y).mono ?_)
      rintro e y' ⟨⟨A5, A6, B5, rfl, hB5, -⟩, hb⟩
      refine ⟨_, rfl, hC.trans (hb.mono hC.size), .inr ⟨{ Gh.zero with a1 := A5, a2 := A6 }, rfl, fun _ => ?_⟩⟩
      rw [upd_self]
      exact ⟨B5, hB5⟩
    · simp only [List.getElem?_cons_succ, List.getElem?_cons_zero, Option.some.injEq] at ho
      subst ho
      have h13 : L 13 = true := hafter ⟨13, .data⟩ (by simp) rfl
      obtain ⟨B5, hB5⟩ := hJ h13
      refine does_enter (by kernel_rfl) ((hCk.out y _ _ B5 C c hB5 (hCx.out.below hC)).mono ?_)
      rw [old_check]
      rintro e y' ⟨rfl, hb⟩
      refine ⟨_, rfl, hC.trans (hb.mono hC.size), .inr ⟨Gh.zero, rfl, fun _ => ?_⟩⟩
      rw [upd_ne (by decide)]
      exact ⟨B5, hB5.below hb⟩
  intro g y hJ hC hb0
  clear hJ
  go_wp2
  go_ret
  exact ⟨rfl, hb0⟩
end Go.Proofs
