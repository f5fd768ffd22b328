import Derived.Test.YtpmliaildjomeaaGreatDoorMg17
import Derived.Test.YtpmliaildjomeaaGreatDoorMg4
import Derived.Test.YtpmliaildjomeaaGreatDoorMg10
import Derived.Laws.AppendOwnNone
import Derived.Deep.AppendLies
set_option linter.unusedSimpArgs false
set_option linter.unusedVariables false
namespace Go.Proofs
open Go.RowKit

set_option maxRecDepth 100000 in
theorem rangeErr_any (lo hi m : Int) (w : World) : Calls Tryz.prog 95 #[.agg #[.int .i64 lo, .int .i64 hi], .int .i64 m] w fun e w' => e = .returned (.int .i64 (rangeE lo hi m)) ∧ Below w.heap.size w w' := by
  unfold rangeE
  obtain ⟨b1, h1⟩ : ∃ b, within lo 0 m = b := ⟨_, rfl⟩
  obtain ⟨b2, h2⟩ : ∃ b, within hi 0 m = b := ⟨_, rfl⟩
  obtain ⟨b3, h3⟩ : ∃ b, decide (lo ≤ hi) = b := ⟨_, rfl⟩
  have hW1 := Lib.hid fun W => within_any lo 0 m W
  have hW2 := Lib.hid fun W => within_any hi 0 m W
  rw [h1] at hW1 ⊢
  rw [h2] at hW2 ⊢
  rw [h3]
  have h3' := Lib.hid h3
  clear h1 h2 h3
  cases b1
  all_goals
    go_enter Tryz.func95, Tryz.ntmps95
    go_wp2
    refine wp_world ?_
    intro w1 hw1
    have hb1 : Below w.heap.size w w1 := by rw [hw1]; go_grown
    have M0 : w1.heap[w.heap.size]? = some (.cells #[.int .i64 lo, .int .i64 hi] 69 (0, 0)) := by rw [hw1]; (repeat (first | assumption | (refine bk_new _ _ ?_; (simp; done)) | refine bk_drew ?_ | refine bk_alloc ?_ _ | refine bk_set ?_ (by simp <;> omega) _))
    have D := bk2 M0
    clear hw1
    have h3'' := h3'.out
    refine region_in w 17 (by kernel_rfl) (by kernel_rfl) hb1 ?_
    intro hgc hbx
    simp only [List.take_succ_cons, List.take_zero, List.drop_succ_cons, List.drop_zero]
    repeat (go_big_quiet_step (first
      | (go_at_call 33; first | with_reducible exact Grew.call_same (hW1.out _) | with_reducible exact Grew.call_same (hW2.out _))
      | (go_at_call 36; with_reducible exact Grew.call_same (unless_any _ _ _))))
    refine wpQuiet_nil ?_
    intro wb hb_wb hw_wb hs_wb
    clear hgc hbx
    go_wp2_with (go_at_call 35; refine (first2 _ _ _).mono ?_; rintro e w' ⟨rfl, rfl⟩)
    go_ret
    exact ⟨ret_int (by simp), by go_grown⟩
theorem partName_any (p q : Pa) (B : Nat) (w : World) (hB : w.heap[B]? = some (.cells #[.string p.nm, .int .i64 p.a0, .int .i64 p.a1, .int .i64 p.c0, .int .i64 p.c1] 71 (0, 0))) :
    Calls Tryz.prog 94 (#[.agg #[.string q.nm, .int .i64 q.a0, .int .i64 q.a1, .int .i64 q.c0, .int .i64 q.c1]] ++ #[.pointer (some ⟨B, 0, none⟩)]) w fun e w' => e = .returned (.bool (eqS q.nm p.nm)) ∧ Below w.heap.size w w' := by
  have c0 : w.cell? ⟨B, 0, none⟩ = some (.string p.nm) := by unfold World.cell?; simp [hB]
  have hs := bk_size hB
  clear hB
  simp only [List.append_toArray, List.cons_append, List.nil_append]
  go_enter Tryz.func94, Tryz.ntmps94
  go_wp2
  go_ret
  exact ⟨ret_bool (by simp [eqS]), by go_grown⟩
theorem entName_any (p q : En) (B : Nat) (w : World) (hB : w.heap[B]? = some (.cells #[.string p.nm, .slice p.A p.co.length p.c, .int .i64 p.mo] 73 (0, 0))) :
    Calls Tryz.prog 97 (#[.agg #[.string q.nm, .slice q.A q.co.length q.c, .int .i64 q.mo]] ++ #[.pointer (some ⟨B, 0, none⟩)]) w fun e w' => e = .returned (.bool (eqS q.nm p.nm)) ∧ Below w.heap.size w w' := by
  have c0 := (bk3 hB).1
  have hs := bk_size hB
  clear hB
  simp only [List.append_toArray, List.cons_append, List.nil_append]
  go_enter Tryz.func97, Tryz.ntmps97
  go_wp2
  go_ret
  exact ⟨ret_bool (by simp [eqS]), by go_grown⟩
theorem coef_any (n : Int) (w : World) : Calls Tryz.prog 98 (#[.int .i64 n] ++ #[]) w fun e w' => e = .returned (.bool (!smallB n 20)) ∧ Below w.heap.size w w' := by
  simp only [List.append_toArray, List.cons_append, List.nil_append]
  go_enter Tryz.func98, Tryz.ntmps98
  go_wp2_with (go_at_call 34; refine (csmall_any _ _ _ (by decide)).mono ?_; rintro e w' ⟨rfl, rfl⟩)
  go_ret
  exact ⟨rfl, Below.refl _ _⟩
end Go.Proofs

set_option linter.unusedSimpArgs false
set_option linter.unusedVariables false
namespace Go.Proofs
open Go.RowKit

theorem At.take' {α : Type} {sz : Nat} {cs : α → List Value} {w : World} {A : Option Addr} {l : List α} (h : At sz cs w A l) (n : Nat) : At sz cs w A (l.take n) := by
  intro k x hk
  rw [List.getElem?_take] at hk
  split at hk
  · exact h k x hk
  · cases hk
/-- The first error of a list of them, with its number. -/
def scanL : List Int → Nat → Option (Nat × Int)
  | [], _ => none
  | e :: l, k => if e = 0 then scanL l (k + 1) else some (k, e)
theorem scanL_none : ∀ (l : List Int) (k : Nat), (∀ i, i < l.length → l.getD i 0 = 0) → scanL l k = none
  | [], _, _ => rfl
  | e :: l, k, h => by
    unfold scanL
    rw [if_pos (show e = 0 by simpa using h 0 (by simp))]
    exact scanL_none l (k + 1) fun i hi => by have := h (i + 1) (by simpa using hi); simpa using this
theorem scanL_at : ∀ (l : List Int) (k i : Nat), i < l.length → (∀ j, j < i → l.getD j 0 = 0) → l.getD i 0 ≠ 0 → scanL l k = some (k + i, l.getD i 0)
  | [], _, _, h, _, _ => by simp at h
  | e :: l, k, 0, _, _, h => by
    unfold scanL
    rw [if_neg (show ¬ e = 0 by simpa using h)]
    rfl
  | e :: l, k, i + 1, hi, h1, h2 => by
    unfold scanL
    rw [if_pos (show e = 0 by simpa using h1 0 (by omega)), scanL_at l (k + 1) i (by simpa using hi) (fun j hj => by simpa using h1 (j + 1) (by omega)) (by simpa using h2)]
    simp
    omega
def partE (ps : List Pa) (i : Nat) (p : Pa) : Int := firstE [unl (nameB p.nm.data.toList) 4, unl (!((ps.take i).any fun q => eqS q.nm p.nm)) 5, rangeE p.a0 p.a1 400, rangeE p.c0 p.c1 20]
def entE (np : Nat) (es : List En) (i : Nat) (x : En) : Int := firstE [unl (nameB x.nm.data.toList) 4, unl (!((es.take i).any fun y => eqS y.nm x.nm)) 5, unl (decide (x.co.length = np)) 10, unl (!((x.mo :: x.co).any fun n => !smallB n 20)) 2]
def partEs (ps : List Pa) : List Int := ps.mapIdx fun i p => partE ps i p
def entEs (np : Nat) (es : List En) : List Int := es.mapIdx fun i x => entE np es i x
theorem partEs_get {ps : List Pa} {i : Nat} {p : Pa} (h : ps[i]? = some p) : (partEs ps).getD i 0 = partE ps i p := by simp [partEs, List.getD_eq_getElem?_getD, h]
theorem entEs_get {np : Nat} {es : List En} {i : Nat} {x : En} (h : es[i]? = some x) : (entEs np es).getD i 0 = entE np es i x := by simp [entEs, List.getD_eq_getElem?_getD, h]
/-- What is wrong with a book. -/
def sizeE (n : Nat) : Int := firstE [unl (decide (0 < n)) 10, unl (decide (n ≤ 5)) 8]
def bookV (ps : List Pa) (es : List En) : Int × Int :=
  if sizeE ps.length ≠ 0 then (0, sizeE ps.length)
  else match scanL (partEs ps) 0 with
    | some (k, e) => ((k : Int), e)
    | none => if 8 < es.length then (0, 8) else match scanL (entEs ps.length es) 0 with
      | some (k, e) => ((k : Int), e)
      | none => (0, 0)
/-- A book in memory. -/
structure BookAt (w : World) (pA : Option Addr) (pc : Nat) (ps : List Pa) (eA : Option Addr) (ec : Nat) (es : List En) : Prop where
  P : At 5 Pa.cs w pA ps
  E : EnsAt w eA es
  pc' : ps.length ≤ pc
  ec' : es.length ≤ ec
  nil : ∀ x ∈ es, x.A = none → x.c = 0
theorem BookAt.below {w w' : World} {pA eA : Option Addr} {pc ec : Nat} {ps : List Pa} {es : List En} (h : BookAt w pA pc ps eA ec es) (hb : Below w.heap.size w w') : BookAt w' pA pc ps eA ec es := ⟨h.P.below hb, h.E.below hb, h.pc', h.ec', h.nil⟩
/-- Its sizes are within what the machine holds. -/
structure FewB (ps : List Pa) (es : List En) : Prop where
  p : ps.length ≤ 1000
  e : es.length ≤ 1000
  pn : ∀ p ∈ ps, p.nm.size ≤ 1000
  en : ∀ x ∈ es, x.nm.size ≤ 1000
  co : ∀ x ∈ es, x.co.length ≤ 1000
theorem wpList_world {P : Program} {ops : Array Oper} {Q : Exit → Act → World → Prop} {l : List Oper} {a : Act} {w : World} (h : ∀ W, W = w → wpList P ops Q l a W) : wpList P ops Q l a w := h w rfl
set_option maxRecDepth 100000 in
set_option maxHeartbeats 4000000 in
theorem checkBook_any (pA eA : Option Addr) (pc ec pn en : Nat) (ps : List Pa) (es : List En) (w : World) (hB : BookAt w pA pc ps eA ec es) (hF : FewB ps es) (hpn : ps.length = pn) (hen : es.length = en) :
    Calls Tryz.prog 66 #[.agg #[.slice pA pn pc, .slice eA en ec]] w fun e w' => e = .returned (.tuple #[.int .i64 (bookV ps es).1, .int .i64 (bookV ps es).2]) ∧ Below w.heap.size w w' := by
  have hpc : pn ≤ pc := by rw [← hpn]; exact hB.pc'
  have hec : en ≤ ec := by rw [← hen]; exact hB.ec'
  have hp1 : pn ≤ 1000 := by rw [← hpn]; exact hF.p
  have he1 : en ≤ 1000 := by rw [← hen]; exact hF.e
  have hB' := Lib.hid hB
  have hF' := Lib.hid hF
  have hpn' := Lib.hid hpn
  have hen' := Lib.hid hen
  have hv := Lib.hid (show bookV ps es = if sizeE pn ≠ 0 then (0, sizeE pn)
      else match scanL (partEs ps) 0 with
        | some (k, e) => ((k : Int), e)
        | none => if 8 < en then (0, 8) else match scanL (entEs pn es) 0 with
          | some (k, e) => ((k : Int), e)
          | none => (0, 0) by rw [← hpn, ← hen]; rfl)
  obtain ⟨V, hV⟩ : ∃ V, bookV ps es = V := ⟨_, rfl⟩
  rw [hV] at hv ⊢
  have hsz : Hid (sizeE pn = firstE [unl (decide (0 < pn)) 10, unl (decide (pn ≤ 5)) 8]) := rfl
  obtain ⟨S, hS⟩ : ∃ S, sizeE pn = S := ⟨_, rfl⟩
  rw [hS] at hv hsz
  clear hB hF hpn hen hV hS
  obtain ⟨s1, hs1⟩ : ∃ b, decide (0 < pn) = b := ⟨_, rfl⟩
  obtain ⟨s2, hs2⟩ : ∃ b, decide (pn ≤ 5) = b := ⟨_, rfl⟩
  rw [hs1, hs2] at hsz
  have hs1I : decide ((0 : Int) < (pn : Int)) = s1 := by rw [← hs1, decide_eq_decide]; omega
  have hs2I : decide ((pn : Int) ≤ 5) = s2 := by rw [← hs2, decide_eq_decide]; omega
  go_enter Tryz.func66, Tryz.ntmps66
  go_wp2
  refine wp_world ?_
  intro w1 hw1
  have hb1 : Below w.heap.size w w1 := by rw [hw1]; go_grown
  have M0 : w1.heap[w.heap.size]? = some (.cells #[.slice pA pn pc, .slice eA en ec] 25 (0, 0)) := by rw [hw1]; (repeat (first | assumption | (refine bk_new _ _ ?_; (simp; done)) | refine bk_drew ?_ | refine bk_alloc ?_ _ | refine bk_set ?_ (by simp <;> omega) _))
  have D := bk2 M0
  clear hw1
  refine region_in w 10 (by kernel_rfl) (by kernel_rfl) hb1 ?_
  intro hgc hbx
  simp only [List.take_succ_cons, List.take_zero, List.drop_succ_cons, List.drop_zero]
  repeat (go_big_quiet_step ((go_at_call 36; with_reducible exact Grew.call_same (unless_any _ _ _))))
  refine wpQuiet_nil ?_
  intro wb hb_wb hw_wb hs_wb
  clear hgc hbx
  have M1 := bk_keep hb_wb M0
  have D2 := bk2 M1
  have hbw := via hb1 hb_wb
  clear M0 D hb1 hb_wb
  have hss := Lib.hid hsz.out.symm
  by_cases hS0 : S = 0
  · subst hS0
    have hss0 := hss.out
    have hv2 := Lib.hid (show V = match scanL (partEs ps) 0 with
        | some (k, e) => ((k : Int), e)
        | none => if 8 < en then (0, 8) else match scanL (entEs pn es) 0 with
          | some (k, e) => ((k : Int), e)
          | none => (0, 0) by rw [hv.out, if_neg (by simp)])
    clear hv hsz hss hs1 hs2 hs1I hs2I
    go_wp2_with (go_at_call 35; refine (first2 _ _ _).mono ?_; rw [hss0]; rintro e w' ⟨rfl, rfl⟩)
    go_loopw [32] (fun i wr => ∃ k : Nat, k ≤ pn ∧ i = .int .i64 k ∧ Hid (∀ j, j < k → (partEs ps).getD j 0 = 0) ∧ wr.heap[w.heap.size]? = some (.cells #[.slice pA pn pc, .slice eA en ec] 25 (0, 0)) ∧ Below w.heap.size w wr) (fun i _ => pn - (intOf i).toNat)
    case atStart => exact ⟨0, Nat.zero_le _, rfl, fun j hj => by omega, by (repeat (first | assumption | (refine bk_new _ _ ?_; (simp; done)) | refine bk_drew ?_ | refine bk_alloc ?_ _ | refine bk_set ?_ (by simp <;> omega) _)), by go_grown⟩
    case round =>
      clear M1 D2 hbw hw_wb hs_wb hss0
      obtain ⟨k, hk, rfl, hz, M1, hbw⟩ := hrel
      have D := bk2 M1
      by_cases hkn : k < pn
      · have hkI : (k : Int) < (pn : Int) := by omega
        obtain ⟨p, hp⟩ : ∃ p, ps[k]? = some p := ⟨_, List.getElem?_eq_getElem (by rw [hpn'.out]; exact hkn)⟩
        obtain ⟨b, o, rfl, hbb, hc⟩ := (hB'.out.below hbw).P k p hp
        have y0 := hc 0 _ rfl
        have y1 := hc 1 _ rfl
        have y2 := hc 2 _ rfl
        have y3 := hc 3 _ rfl
        have y4 := hc 4 _ rfl
        simp only [Nat.add_zero] at y0
        have hpe := Lib.hid (partEs_get hp)
        have hkc : ¬ ((pc : Int) < (k : Int)) := by omega
        have hkc2 : (k : Int) ≤ (pc : Int) := by omega
        have hCo := Lib.hid (by
          have h1 := containsFunc_part (some ⟨b, o, none⟩) (ps.take k) pc wr.heap.size (fun q => eqS q.nm p.nm) (wr.alloc (.cells #[.string p.nm, .int .i64 p.a0, .int .i64 p.a1, .int .i64 p.c0, .int .i64 p.c1] 71 (0, 0))) (by rw [List.length_take]; have := hpn'.out; omega) (((hB'.out.below hbw).P.take' k).below (new_below _ _)) (fun y _ W hW => partName_any p y wr.heap.size W (bk_keep hW (bk_new _ _ rfl)))
          rw [List.length_take, hpn'.out, Nat.min_eq_left (by omega)] at h1
          exact h1)
        obtain ⟨q, hq⟩ : ∃ q, (ps.take k).any (fun q => eqS q.nm p.nm) = q := ⟨_, rfl⟩
        rw [hq] at hCo
        have hpE : Hid (partE ps k p = firstE [unl (nameB p.nm.data.toList) 4, unl (!((ps.take k).any fun q => eqS q.nm p.nm)) 5, rangeE p.a0 p.a1 400, rangeE p.c0 p.c1 20]) := rfl
        rw [hq] at hpE
        obtain ⟨E, hE⟩ : ∃ E, partE ps k p = E := ⟨_, rfl⟩
        rw [hE] at hpE hpe
        have hnm := Lib.hid (show p.nm.size ≤ 9223372036854775807 from Nat.le_trans (hF'.out.pn p (List.mem_of_getElem? hp)) (by decide))
        have hsW := bk_size M1
        clear hc hp hq hE
        go_wp2_with (go_at_call 93; refine hCo.out.mono ?_; rintro e w3 ⟨rfl, hb3⟩)
        have N0 := bk_keep hb3 (bk_alloc M1 (.cells #[.string p.nm, .int .i64 p.a0, .int .i64 p.a1, .int .i64 p.c0, .int .i64 p.c1] 71 (0, 0)))
        have N1 := bk_keep hb3 (bk_new wr (.cells #[.string p.nm, .int .i64 p.a0, .int .i64 p.a1, .int .i64 p.c0, .int .i64 p.c1] 71 (0, 0)) rfl)
        have hb4 := via hbw (via (new_below wr (.cells #[.string p.nm, .int .i64 p.a0, .int .i64 p.a1, .int .i64 p.c0, .int .i64 p.c1] 71 (0, 0))) hb3)
        have e0 : w3.cell? ⟨wr.heap.size, 0, none⟩ = some (.string p.nm) := by unfold World.cell?; simp [N1]
        have e1 : w3.cell? ⟨wr.heap.size, 1, none⟩ = some (.int .i64 p.a0) := by unfold World.cell?; simp [N1]
        have e2 : w3.cell? ⟨wr.heap.size, 2, none⟩ = some (.int .i64 p.a1) := by unfold World.cell?; simp [N1]
        have e3 : w3.cell? ⟨wr.heap.size, 3, none⟩ = some (.int .i64 p.c0) := by unfold World.cell?; simp [N1]
        have e4 : w3.cell? ⟨wr.heap.size, 4, none⟩ = some (.int .i64 p.c1) := by unfold World.cell?; simp [N1]
        have hs3 := bk_size N1
        clear y0 y1 y2 y3 y4 hb3 D M1 hCo
        refine region_in w 13 (by kernel_rfl) (by kernel_rfl) hb4 ?_
        intro hgc hbx
        simp only [List.take_succ_cons, List.take_zero, List.drop_succ_cons, List.drop_zero]
        repeat (go_big_quiet_step (first
          | (go_at_call 29; with_reducible exact Grew.call (isName_any _ _ hnm.out))
          | (go_at_call 36; with_reducible exact Grew.call_same (unless_any _ _ _))
          | (go_at_call 95; with_reducible exact Grew.call (rangeErr_any _ _ _ _))))
        refine wpQuiet_nil ?_
        intro wb hb_wb hw_wb hs_wb
        clear hgc hbx
        have P0 := bk_keep hb_wb N0
        clear N0 N1 e0 e1 e2 e3 e4 hb4 hb_wb
        have hss := Lib.hid hpE.out.symm
        have hss0 := hss.out
        by_cases hE0 : E = 0
        · subst hE0
          go_wp2_with (go_at_call 35; refine (first4 _ _ _ _ _).mono ?_; rw [hss0]; rintro e w' ⟨rfl, rfl⟩)
          go_roundw
          case rel => exact ⟨k + 1, by omega, by go_num, (fun j hj => by
            by_cases hjk : j = k
            · rw [hjk, hpe.out]
            · exact hz.out j (by omega)), bk_alloc P0 _, via hw_wb (new_below _ _)⟩
          case measure => first | (simp [intOf]; done) | (simp [intOf]; omega)
        · have hEb : (E != 0) = true := by simpa using hE0
          have hvk := Lib.hid (show V = ((k : Int), E) by
            rw [hv2.out, scanL_at (partEs ps) 0 k (by simp [partEs]; rw [hpn'.out]; exact hkn) hz.out (by rw [hpe.out]; exact hE0), hpe.out]
            simp)
          go_wp2_with (go_at_call 35; refine (first4 _ _ _ _ _).mono ?_; rw [hss0]; rintro e w' ⟨rfl, rfl⟩)
          go_ret2
          exact ⟨by rw [hvk.out]; rfl, by go_grown⟩
      · obtain rfl : pn = k := by omega
        have hv3 := Lib.hid (show V = if 8 < en then (0, 8) else match scanL (entEs pn es) 0 with
            | some (k, e) => ((k : Int), e)
            | none => (0, 0) by rw [hv2.out, scanL_none (partEs ps) 0 fun i hi => hz.out i (by simp [partEs] at hi; rw [hpn'.out] at hi; exact hi)])
        clear hz hkn hv2
        by_cases h8 : 8 < en
        · have hv4 := Lib.hid (show V = (0, 8) by rw [hv3.out, if_pos h8])
          have h8I : (8 : Int) < (en : Int) := by omega
          go_wp2
          go_ret2
          exact ⟨by rw [hv4.out]; rfl, by go_grown⟩
        · have h8I : ¬ (8 : Int) < (en : Int) := by omega
          have hv4 := Lib.hid (show V = match scanL (entEs pn es) 0 with
            | some (k, e) => ((k : Int), e)
            | none => (0, 0) by rw [hv3.out, if_neg h8])
          go_wp2
          go_loopw [70] (fun i wr => ∃ k : Nat, k ≤ en ∧ i = .int .i64 k ∧ Hid (∀ j, j < k → (entEs pn es).getD j 0 = 0) ∧ wr.heap[w.heap.size]? = some (.cells #[.slice pA pn pc, .slice eA en ec] 25 (0, 0)) ∧ Below w.heap.size w wr) (fun i _ => en - (intOf i).toNat)
          case atStart => exact ⟨0, Nat.zero_le _, rfl, fun j hj => by omega, M1, hbw⟩
          case round =>
            clear M1 D hbw
            obtain ⟨k, hk, rfl, hz, M1, hbw⟩ := hrel
            have D := bk2 M1
            by_cases hkn : k < en
            · have hkI : (k : Int) < (en : Int) := by omega
              obtain ⟨x, hx⟩ : ∃ x, es[k]? = some x := ⟨_, List.getElem?_eq_getElem (by rw [hen'.out]; exact hkn)⟩
              have hxm := List.mem_of_getElem? hx
              obtain ⟨b, o, rfl, hbb, hc⟩ := (hB'.out.below hbw).E.1 k x hx
              have y0 := hc 0 _ rfl
              have y1 := hc 1 _ rfl
              have y2 := hc 2 _ rfl
              simp only [Nat.add_zero] at y0
              have hpe := Lib.hid (entEs_get (np := pn) hx)
              have hkc : ¬ ((ec : Int) < (k : Int)) := by omega
              have hkc2 : (k : Int) ≤ (ec : Int) := by omega
              have hCo := Lib.hid (by
                have h1 := containsFunc_entry (some ⟨b, o, none⟩) (es.take k) ec wr.heap.size (fun y => eqS y.nm x.nm) (wr.alloc (.cells #[.string x.nm, .slice x.A x.co.length x.c, .int .i64 x.mo] 73 (0, 0))) (by rw [List.length_take]; have := hen'.out; omega) (((hB'.out.below hbw).E.1.take' k).below (new_below _ _)) (fun y _ W hW => entName_any x y wr.heap.size W (bk_keep hW (bk_new _ _ rfl)))
                rw [List.length_take, hen'.out, Nat.min_eq_left (by omega)] at h1
                exact h1)
              obtain ⟨q, hq⟩ : ∃ q, (es.take k).any (fun y => eqS y.nm x.nm) = q := ⟨_, rfl⟩
              rw [hq] at hCo
              have hpE : Hid (entE pn es k x = firstE [unl (nameB x.nm.data.toList) 4, unl (!((es.take k).any fun y => eqS y.nm x.nm)) 5, unl (decide (x.co.length = pn)) 10, unl (!((x.mo :: x.co).any fun n => !smallB n 20)) 2]) := rfl
              rw [hq] at hpE
              obtain ⟨E, hE⟩ : ∃ E, entE pn es k x = E := ⟨_, rfl⟩
              rw [hE] at hpE hpe
              have hnm := Lib.hid (show x.nm.size ≤ 9223372036854775807 from Nat.le_trans (hF'.out.en x hxm) (by decide))
              have hxc := Lib.hid ((hB'.out.below hbw).E.2 x hxm)
              have hcl := hF'.out.co x hxm
              have hnil := Lib.hid (hB'.out.nil x hxm)
              have hsW := bk_size M1
              obtain ⟨L, hL⟩ : ∃ L, x.co.length = L := ⟨_, rfl⟩
              have hL' := Lib.hid hL
              rw [hL] at hCo hpE hcl y1
              obtain ⟨r, hr⟩ : ∃ r, (x.mo :: x.co).any (fun n => !smallB n 20) = r := ⟨_, rfl⟩
              have hr' := Lib.hid hr
              rw [hr] at hpE
              obtain ⟨s, hs⟩ : ∃ s, decide (L = pn) = s := ⟨_, rfl⟩
              rw [hs] at hpE
              have hsI : ((L : Int) == (pn : Int)) = s := by rw [← hs, Bool.eq_iff_iff]; simp; omega
              obtain ⟨i0, hi, hz0, hz1, hz2⟩ := info_parts Tryz.info3
              clear hc hx hxm hq hE hL hr
              have hlitO := Lib.hid fun (y : World) => (⟨rfl, .inr ⟨y.heap.size, 1, #[.int .i64 x.mo], rfl, Nat.le_refl _, bk_new _ _ rfl, Nat.le_refl _, by decide, rfl, rfl⟩⟩ : (y.alloc (.cells #[.int .i64 x.mo] 3 (0, 0))).ownsRow y.heap.size 3 1 (.slice (some ⟨y.heap.size, 0, none⟩) 1 1) 1 [.int .i64 x.mo])
              obtain ⟨XA, hXA⟩ : ∃ A, x.A = A := ⟨_, rfl⟩
              rw [hXA] at y1 hxc hnil hCo
              rcases XA with _ | ad
              · have hco0 : x.co = [] := by
                  cases hh : x.co with
                  | nil => rfl
                  | cons y l =>
                    obtain ⟨b', o', e, -⟩ := hxc.out 0 y (by rw [hh]; rfl)
                    cases e
                have hL0 : L = 0 := by rw [← hL'.out, hco0]; rfl
                subst hL0
                have hsI0 : ((0 : Int) == (pn : Int)) = s := hsI
                clear hsI
                have hc0 := hnil.out rfl
                rw [hc0] at y1 hCo
                have hCo := Lib.hid hCo.out
                go_wp2_with (first
                  | (go_at_call 96; refine hCo.out.mono ?_; rintro e w3 ⟨rfl, hb3⟩; have N1 := bk_keep hb3 (bk_new wr (.cells #[.string x.nm, .slice none 0 0, .int .i64 x.mo] 73 (0, 0)) rfl); have D1 := bk3 N1; have N0 := bk_keep hb3 (bk_alloc M1 (.cells #[.string x.nm, .slice none 0 0, .int .i64 x.mo] 73 (0, 0))); have D0 := bk2 N0; have hb4 := via hbw (via (new_below wr (.cells #[.string x.nm, .slice none 0 0, .int .i64 x.mo] 73 (0, 0))) hb3))
                  | (at_builtin; refine wpList_append_own_none rfl _ _ 33 rfl w3.heap.size 3 i0 1 Tryz.underlying33 hi _ 1 [.int .i64 x.mo] rfl (hlitO.out w3) rfl ?_; refine stop_here ?stop))
                case stop =>
                refine Lib.hid ?_
                refine wpList_world ?_
                intro w4 hw4
                have hb34 : Below w3.heap.size w3 w4 := by rw [hw4]; exact new_below _ _
                have hat4' := Lib.hid (show At 1 Zc w4 (some ⟨w3.heap.size, 0, none⟩) (x.mo :: x.co) by rw [hco0, hw4]; exact (IntsAt.new (T := 3) w3 [x.mo]).at')
                have hn4' := Lib.hid (show (x.mo :: x.co).length = 1 by rw [hco0]; rfl)
                clear hw4
                have hCc := Lib.hid (by
                  have h1 := containsFunc_coef _ (x.mo :: x.co) 1 (fun n => !smallB n 20) w4 (by rw [hn4'.out]; omega) hat4'.out (fun y _ W hW => coef_any y W)
                  rw [hr'.out, hn4'.out] at h1
                  exact h1)
                have O0 := bk_keep hb34 N0
                have O1 := bk_keep hb34 N1
                have hb5 := via hb4 hb34
                have D0 := bk2 O0
                have D1 := bk3 O1
                clear N0 N1 hb4 hCo
                go_wp2_with (go_at_call 77; refine hCc.out.mono ?_; rintro e w6 ⟨rfl, hb6⟩)
                have N0 := bk_keep hb6 O0
                have N1 := bk_keep hb6 O1
                have hb7 := via hb5 hb6
                clear D0 D1 O0 O1 hb5 hb6 hCc
                have D0 := bk2 N0
                have D1 := bk3 N1
                have hs7 := bk_size N1
                refine region_in w 18 (by kernel_rfl) (by kernel_rfl) hb7 ?_
                intro hgc hbx
                simp only [List.take_succ_cons, List.take_zero, List.drop_succ_cons, List.drop_zero]
                repeat (go_big_quiet_step (first
                  | (go_at_call 29; with_reducible exact Grew.call (isName_any _ _ hnm.out))
                  | (go_at_call 36; with_reducible exact Grew.call_same (unless_any _ _ _))))
                refine wpQuiet_nil ?_
                intro wb hb_wb hw_wb hs_wb
                clear hgc hbx
                have P0 := bk_keep hb_wb N0
                clear N0 N1 D0 D1 hb7 hb_wb
                have hss := Lib.hid hpE.out.symm
                have hss0 := hss.out
                by_cases hE0 : E = 0
                · subst hE0
                  go_wp2_with (go_at_call 35; refine (first4 _ _ _ _ _).mono ?_; rw [hss0]; rintro e w' ⟨rfl, rfl⟩)
                  go_roundw
                  case rel => exact ⟨k + 1, by omega, by go_num, (fun j hj => by
                    by_cases hjk : j = k
                    · rw [hjk, hpe.out]
                    · exact hz.out j (by omega)), bk_alloc P0 _, via hw_wb (new_below _ _)⟩
                  case measure => first | (simp [intOf]; done) | (simp [intOf]; omega)
                · have hEb : (E != 0) = true := by simpa using hE0
                  have hvk := Lib.hid (show V = ((k : Int), E) by
                    rw [hv4.out, scanL_at (entEs pn es) 0 k (by simp [entEs]; rw [hen'.out]; exact hkn) hz.out (by rw [hpe.out]; exact hE0), hpe.out]
                    simp)
                  go_wp2_with (go_at_call 35; refine (first4 _ _ _ _ _).mono ?_; rw [hss0]; rintro e w' ⟨rfl, rfl⟩)
                  go_ret2
                  exact ⟨by rw [hvk.out]; rfl, by go_grown⟩
              · go_wp2_with (first | (go_at_call 96; refine hCo.out.mono ?_; rintro e w3 ⟨rfl, hb3⟩; have N1 := bk_keep hb3 (bk_new wr (.cells #[.string x.nm, .slice (some ad) L x.c, .int .i64 x.mo] 73 (0, 0)) rfl); have D1 := bk3 N1; have N0 := bk_keep hb3 (bk_alloc M1 (.cells #[.string x.nm, .slice (some ad) L x.c, .int .i64 x.mo] 73 (0, 0))); have D0 := bk2 N0; have hb4 := via hbw (via (new_below wr (.cells #[.string x.nm, .slice (some ad) L x.c, .int .i64 x.mo] 73 (0, 0))) hb3)) | (at_builtin; refine wpList_append_own _ rfl _ _ 33 rfl w3.heap.size 3 i0 (.int .i64 0) 1 8 Tryz.underlying33 hi hz0 hz1 hz2 rfl (by decide) _ _ _ rfl (hlitO.out w3) ad L x.c (x.co.map (Value.int .i64)) rfl ?c0 ?c1 ?c2 ?c3 ?c4 ?c5 ?_))
                case c0 => rw [List.length_map, hL'.out, Nat.mul_one]
                case c1 =>
                  intro j u hu
                  rw [List.getElem?_map] at hu
                  obtain ⟨y, hy, rfl⟩ := Option.map_eq_some_iff.1 hu
                  obtain ⟨b', o', e, -, hcc⟩ := ((hxc.out.below (via (new_below wr (.cells #[.string x.nm, .slice (some ad) L x.c, .int .i64 x.mo] 73 (0, 0))) hb3)).below (new_below w3 (.cells #[.int .i64 x.mo] 3 (0, 0)))) j y hy
                  cases e
                  have e : Addr.add ⟨b', o', none⟩ j = ⟨b', o' + j, none⟩ := by unfold Addr.add; split <;> simp_all
                  rw [e]
                  simpa using hcc 0 _ rfl
                case c2 =>
                  intro u hu
                  obtain ⟨y, -, rfl⟩ := List.mem_map.1 hu
                  rfl
                case c3 => unfold maxLen; omega
                case c4 => omega
                case c5 => simp
                intro v4 w4 hown4 hg4 _
                obtain ⟨A4, c4, rfl⟩ := own_slice hown4
                have hb34 : Below w3.heap.size w3 w4 := grown_below (new_below w3 _) hg4 fun b e => by cases e; exact Nat.le_refl _
                have hat4 := own_ints (l := x.mo :: x.co) hown4
                have hn4 : (x.mo :: x.co).length = 1 + L := by simp only [List.length_cons]; rw [hL'.out]; omega
                have hat4' := Lib.hid hat4
                have hn4' := Lib.hid hn4
                clear hown4 hg4 hat4 hn4
                have hCc := Lib.hid (by
                  have h1 := containsFunc_coef _ (x.mo :: x.co) c4 (fun n => !smallB n 20) w4 (by rw [hn4'.out]; omega) hat4'.out (fun y _ W hW => coef_any y W)
                  rw [hr'.out, hn4'.out] at h1
                  exact h1)
                have O0 := bk_keep hb34 N0
                have O1 := bk_keep hb34 N1
                have hb5 := via hb4 hb34
                have D0 := bk2 O0
                have D1 := bk3 O1
                clear N0 N1 hb4 hCo
                go_wp2_with (go_at_call 77; refine hCc.out.mono ?_; rintro e w6 ⟨rfl, hb6⟩)
                have N0 := bk_keep hb6 O0
                have N1 := bk_keep hb6 O1
                have hb7 := via hb5 hb6
                clear D0 D1 O0 O1 hb5 hb6 hCc
                have D0 := bk2 N0
                have D1 := bk3 N1
                have hs7 := bk_size N1
                refine region_in w 18 (by kernel_rfl) (by kernel_rfl) hb7 ?_
                intro hgc hbx
                simp only [List.take_succ_cons, List.take_zero, List.drop_succ_cons, List.drop_zero]
                repeat (go_big_quiet_step (first
                  | (go_at_call 29; with_reducible exact Grew.call (isName_any _ _ hnm.out))
                  | (go_at_call 36; with_reducible exact Grew.call_same (unless_any _ _ _))))
                refine wpQuiet_nil ?_
                intro wb hb_wb hw_wb hs_wb
                clear hgc hbx
                have P0 := bk_keep hb_wb N0
                clear N0 N1 D0 D1 hb7 hb_wb
                have hss := Lib.hid hpE.out.symm
                have hss0 := hss.out
                by_cases hE0 : E = 0
                · subst hE0
                  go_wp2_with (go_at_call 35; refine (first4 _ _ _ _ _).mono ?_; rw [hss0]; rintro e w' ⟨rfl, rfl⟩)
                  go_roundw
                  case rel => exact ⟨k + 1, by omega, by go_num, (fun j hj => by
                    by_cases hjk : j = k
                    · rw [hjk, hpe.out]
                    · exact hz.out j (by omega)), bk_alloc P0 _, via hw_wb (new_below _ _)⟩
                  case measure => first | (simp [intOf]; done) | (simp [intOf]; omega)
                · have hEb : (E != 0) = true := by simpa using hE0
                  have hvk := Lib.hid (show V = ((k : Int), E) by
                    rw [hv4.out, scanL_at (entEs pn es) 0 k (by simp [entEs]; rw [hen'.out]; exact hkn) hz.out (by rw [hpe.out]; exact hE0), hpe.out]
                    simp)
                  go_wp2_with (go_at_call 35; refine (first4 _ _ _ _ _).mono ?_; rw [hss0]; rintro e w' ⟨rfl, rfl⟩)
                  go_ret2
                  exact ⟨by rw [hvk.out]; rfl, by go_grown⟩
            · obtain rfl : en = k := by omega
              have hv5 := Lib.hid (show V = (0, 0) by rw [hv4.out, scanL_none (entEs pn es) 0 fun i hi => hz.out i (by simp [entEs] at hi; rw [hen'.out] at hi; exact hi)])
              go_wp2
              go_ret2
              exact ⟨by rw [hv5.out]; rfl, hbw⟩
  · have hSb : (S != 0) = true := by simpa using hS0
    have hv2 := Lib.hid (show V = (0, S) by rw [hv.out, if_pos hS0])
    have hss0 := hss.out
    go_wp2_with (go_at_call 35; refine (first2 _ _ _).mono ?_; rw [hss0]; rintro e w' ⟨rfl, rfl⟩)
    go_ret2
    exact ⟨by rw [hv2.out]; rfl, by go_grown⟩
end Go.Proofs

set_option linter.unusedSimpArgs false
set_option linter.unusedVariables false
namespace Go.Proofs
open Go.RowKit

theorem bookErr_any (pA eA : Option Addr) (pc ec pn en : Nat) (ps : List Pa) (es : List En) (w : World) (hB : BookAt w pA pc ps eA ec es) (hF : FewB ps es) (hpn : ps.length = pn) (hen : es.length = en) :
    Calls Tryz.prog 40 #[.agg #[.slice pA pn pc, .slice eA en ec]] w fun e w' => e = .returned (.int .i64 (bookV ps es).2) ∧ Below w.heap.size w w' := by
  have hC := Lib.hid (checkBook_any pA eA pc ec pn en ps es (w.alloc (.cells #[.slice pA pn pc, .slice eA en ec] 25 (0, 0))) (hB.below (new_below _ _)) hF hpn hen)
  go_enter Tryz.func40, Tryz.ntmps40
  go_wp2_with (go_at_call 66; refine hC.out.mono ?_; rintro e w2 ⟨rfl, hb2⟩)
  go_ret
  exact ⟨rfl, via (new_below _ _) hb2⟩
def bothE (ps : List Pa) (es : List En) (k ag : Int) : Int := firstE [(bookV ps es).2, askE k ag]
theorem bothErr_any (pA eA : Option Addr) (pc ec pn en : Nat) (ps : List Pa) (es : List En) (k ag : Int) (w : World) (hB : BookAt w pA pc ps eA ec es) (hF : FewB ps es) (hpn : ps.length = pn) (hen : es.length = en) :
    Calls Tryz.prog 54 #[.agg #[.slice pA pn pc, .slice eA en ec], .agg #[.int .i64 k, .int .i64 ag]] w fun e w' => e = .returned (.int .i64 (bothE ps es k ag)) ∧ Below w.heap.size w w' := by
  unfold bothE
  have hC := Lib.hid fun W (hb : Below w.heap.size w W) => bookErr_any pA eA pc ec pn en ps es W (hB.below hb) hF hpn hen
  obtain ⟨E, hE⟩ : ∃ E, (bookV ps es).2 = E := ⟨_, rfl⟩
  rw [hE] at hC ⊢
  clear hB hF hpn hen hE
  go_enter Tryz.func54, Tryz.ntmps54
  go_wp2
  refine wp_world ?_
  intro w1 hw1
  have hb1 : Below w.heap.size w w1 := by rw [hw1]; go_grown
  have M0 : w1.heap[w.heap.size]? = some (.cells #[.slice pA pn pc, .slice eA en ec] 25 (0, 0)) := by rw [hw1]; (repeat (first | assumption | (refine bk_new _ _ ?_; (simp; done)) | refine bk_drew ?_ | refine bk_alloc ?_ _ | refine bk_set ?_ (by simp <;> omega) _))
  have M1 : w1.heap[w.heap.size + 1]? = some (.cells #[.int .i64 k, .int .i64 ag] 27 (0, 0)) := by rw [hw1]; (repeat (first | assumption | (refine bk_new _ _ ?_; (simp; done)) | refine bk_drew ?_ | refine bk_alloc ?_ _ | refine bk_set ?_ (by simp <;> omega) _))
  have D0 := bk2 M0
  have D1 := bk2 M1
  clear hw1
  refine region_in w 4 (by kernel_rfl) (by kernel_rfl) hb1 ?_
  intro hgc hbx
  simp only [List.take_succ_cons, List.take_zero, List.drop_succ_cons, List.drop_zero]
  repeat (go_big_quiet_step (first
    | (go_at_call 40; with_reducible exact Grew.call (hC.out _ (hbx.out _)))
    | (go_at_call 37; with_reducible exact Grew.call (checkAsk_any _ _ _))))
  refine wpQuiet_nil ?_
  intro wb hb_wb hw_wb hs_wb
  clear hgc hbx
  go_wp2_with (go_at_call 35; refine (first2 _ _ _).mono ?_; rintro e w' ⟨rfl, rfl⟩)
  go_ret
  exact ⟨rfl, by go_grown⟩
/-- The worths of the parts. -/
def worthL (ps : List Pa) (k ag : Int) : List Int := ps.map fun p => if k = 0 then p.a0 else if ag ≤ p.a0 then 1 else 0
theorem worthL_snoc {ps : List Pa} {k ag : Int} {j : Nat} {p : Pa} (h : ps[j]? = some p) : worthL (ps.take (j + 1)) k ag = worthL (ps.take j) k ag ++ [if k = 0 then p.a0 else if ag ≤ p.a0 then 1 else 0] := by
  unfold worthL
  rw [List.take_add_one, h]
  simp
set_option maxRecDepth 100000 in
set_option maxHeartbeats 2000000 in
theorem worths_any (pA eA : Option Addr) (pc ec pn en : Nat) (ps : List Pa) (k ag : Int) (w : World) (hP : At 5 Pa.cs w pA ps) (hpn : ps.length = pn) (hp : pn ≤ 1000) :
    Calls Tryz.prog 55 #[.agg #[.slice pA pn pc, .slice eA en ec], .agg #[.int .i64 k, .int .i64 ag]] w fun e w' => (∃ A c, e = .returned (.slice A pn c) ∧ w'.ownsRow w.heap.size 3 1 (.slice A pn c) pn ((worthL ps k ag).map (Value.int .i64))) ∧ Below w.heap.size w w' := by
  have hP' := Lib.hid hP
  have hpn' := Lib.hid hpn
  obtain ⟨i0, hi, hz0, hz1, hz2⟩ := info_parts Tryz.info3
  clear hP hpn
  go_enter Tryz.func55, Tryz.ntmps55
  go_wp2
  go_loopw [5, 11] (fun v i wr => ∃ j : Nat, j ≤ pn ∧ i = .int .i64 j ∧ Hid (wr.ownsRow (w.heap.size + 2) 3 1 v j ((worthL (ps.take j) k ag).map (Value.int .i64))) ∧ wr.heap[w.heap.size + 1]? = some (.cells #[.int .i64 k, .int .i64 ag] 27 (0, 0)) ∧ Below w.heap.size w wr) (fun _ i _ => pn - (intOf i).toNat)
  case atStart => exact ⟨0, Nat.zero_le _, rfl, Lib.hid (World.ownsRow_nil _ _ _ _), by (repeat (first | assumption | (refine bk_new _ _ ?_; (simp; done)) | refine bk_drew ?_ | refine bk_alloc ?_ _ | refine bk_set ?_ (by simp <;> omega) _)), by go_grown⟩
  case round =>
    obtain ⟨j, hj, rfl, hown, M1, hbw⟩ := hrel
    obtain ⟨A5, c5, rfl⟩ := own_slice hown.out
    have D1 := bk2 M1
    have hsw := bk_size M1
    by_cases hlt : j < pn
    · have hjI : (j : Int) < (pn : Int) := by omega
      obtain ⟨p, hp2⟩ : ∃ p, ps[j]? = some p := ⟨_, List.getElem?_eq_getElem (by rw [hpn'.out]; exact hlt)⟩
      obtain ⟨b, o, rfl, hbb, hc⟩ := hP'.out.below hbw j p hp2
      have y0 := hc 0 _ rfl
      have y1 := hc 1 _ rfl
      have y2 := hc 2 _ rfl
      have y3 := hc 3 _ rfl
      have y4 := hc 4 _ rfl
      simp only [Nat.add_zero] at y0
      have hst := Lib.hid (worthL_snoc (k := k) (ag := ag) hp2)
      have hO2 := Lib.hid (owns_below hown.out (new_below wr (.cells #[.string p.nm, .int .i64 p.a0, .int .i64 p.a1, .int .i64 p.c0, .int .i64 p.c1] 71 (0, 0))))
      have hbw2 := Lib.hid (via hbw (new_below wr (.cells #[.string p.nm, .int .i64 p.a0, .int .i64 p.a1, .int .i64 p.c0, .int .i64 p.c1] 71 (0, 0))))
      have M2 := bk_alloc M1 (.cells #[.string p.nm, .int .i64 p.a0, .int .i64 p.a1, .int .i64 p.c0, .int .i64 p.c1] 71 (0, 0))
      clear hc hp2 hown
      by_cases hk : k = 0
      · have hkb : (k == 0) = true := by simp [hk]
        have hst2 := Lib.hid (show worthL (ps.take (j + 1)) k ag = worthL (ps.take j) k ag ++ [p.a0] by rw [hst.out, if_pos hk])
        replace hst := hst2
        clear hst2 hk
        go_wp2_with (at_builtin; refine wpList_append_own _ rfl _ _ 33 rfl (w.heap.size + 2) 3 i0 (.int .i64 0) 1 8 Tryz.underlying33 hi hz0 hz1 hz2 rfl (by decide) _ _ _ rfl (hO2.out.alloc _) ⟨wr.heap.size + 1, 0, none⟩ 1 1 [.int .i64 (p.a0)] rfl rfl ?c1 ?c2 ?c3 ?c4 ?c5 ?_)
        try (case c1 => exact cells_new' _ [.int .i64 (p.a0)] _ (by simp))
        case c2 => first | rfl | (intro u hu; simp at hu; subst hu; rfl)
        case c3 => first | omega | (unfold maxLen; omega)
        case c4 => omega
        case c5 => have := hbw.size; first | omega | (simp; omega)
        intro v' w3 hown3 hg3 _
        have hown4 := Lib.hid (show w3.ownsRow (w.heap.size + 2) 3 1 v' (j + 1) ((worthL (ps.take (j + 1)) k ag).map (Value.int .i64)) from by rw [hst.out, List.map_append]; exact hown3)
        have M3 := bk_grown hg3 (bk_alloc M2 _) (not_own hO2.out (by omega))
        have hbw3 : Below w.heap.size w w3 := grown_below (via hbw2.out (new_below _ _)) hg3 fun b e => by have := (hO2.out.lt b e).1; omega
        clear hown3 hg3
        go_wp2
        go_roundw
        case rel => exact ⟨j + 1, by omega, by go_num, hown4.out, M3, hbw3⟩
        case measure => first | (simp [intOf]; done) | (simp [intOf]; omega)
      · have hkb : (k == 0) = false := by simpa using hk
        by_cases ha : ag ≤ p.a0
        · have hst2 := Lib.hid (show worthL (ps.take (j + 1)) k ag = worthL (ps.take j) k ag ++ [1] by rw [hst.out, if_neg hk, if_pos ha])
          replace hst := hst2
          clear hst2 hk
          go_wp2_with (at_builtin; refine wpList_append_own _ rfl _ _ 33 rfl (w.heap.size + 2) 3 i0 (.int .i64 0) 1 8 Tryz.underlying33 hi hz0 hz1 hz2 rfl (by decide) _ _ _ rfl (hO2.out.alloc _) ⟨wr.heap.size + 1, 0, none⟩ 1 1 [.int .i64 (1)] rfl rfl ?c1 ?c2 ?c3 ?c4 ?c5 ?_)
          try (case c1 => exact cells_new' _ [.int .i64 (1)] _ (by simp))
          case c2 => first | rfl | (intro u hu; simp at hu; subst hu; rfl)
          case c3 => first | omega | (unfold maxLen; omega)
          case c4 => omega
          case c5 => have := hbw.size; first | omega | (simp; omega)
          intro v' w3 hown3 hg3 _
          have hown4 := Lib.hid (show w3.ownsRow (w.heap.size + 2) 3 1 v' (j + 1) ((worthL (ps.take (j + 1)) k ag).map (Value.int .i64)) from by rw [hst.out, List.map_append]; exact hown3)
          have M3 := bk_grown hg3 (bk_alloc M2 _) (not_own hO2.out (by omega))
          have hbw3 : Below w.heap.size w w3 := grown_below (via hbw2.out (new_below _ _)) hg3 fun b e => by have := (hO2.out.lt b e).1; omega
          clear hown3 hg3
          go_wp2
          go_roundw
          case rel => exact ⟨j + 1, by omega, by go_num, hown4.out, M3, hbw3⟩
          case measure => first | (simp [intOf]; done) | (simp [intOf]; omega)
        · have hst2 := Lib.hid (show worthL (ps.take (j + 1)) k ag = worthL (ps.take j) k ag ++ [0] by rw [hst.out, if_neg hk, if_neg ha])
          replace hst := hst2
          clear hst2 hk
          go_wp2_with (at_builtin; refine wpList_append_own _ rfl _ _ 33 rfl (w.heap.size + 2) 3 i0 (.int .i64 0) 1 8 Tryz.underlying33 hi hz0 hz1 hz2 rfl (by decide) _ _ _ rfl (hO2.out.alloc _) ⟨wr.heap.size + 1, 0, none⟩ 1 1 [.int .i64 (0)] rfl rfl ?c1 ?c2 ?c3 ?c4 ?c5 ?_)
          try (case c1 => exact cells_new' _ [.int .i64 (0)] _ (by simp))
          case c2 => first | rfl | (intro u hu; simp at hu; subst hu; rfl)
          case c3 => first | omega | (unfold maxLen; omega)
          case c4 => omega
          case c5 => have := hbw.size; first | omega | (simp; omega)
          intro v' w3 hown3 hg3 _
          have hown4 := Lib.hid (show w3.ownsRow (w.heap.size + 2) 3 1 v' (j + 1) ((worthL (ps.take (j + 1)) k ag).map (Value.int .i64)) from by rw [hst.out, List.map_append]; exact hown3)
          have M3 := bk_grown hg3 (bk_alloc M2 _) (not_own hO2.out (by omega))
          have hbw3 : Below w.heap.size w w3 := grown_below (via hbw2.out (new_below _ _)) hg3 fun b e => by have := (hO2.out.lt b e).1; omega
          clear hown3 hg3
          go_wp2
          go_roundw
          case rel => exact ⟨j + 1, by omega, by go_num, hown4.out, M3, hbw3⟩
          case measure => first | (simp [intOf]; done) | (simp [intOf]; omega)
    · obtain rfl : pn = j := by omega
      have hall := Lib.hid (show ps.take pn = ps by rw [← hpn'.out, List.take_length])
      go_wp2
      go_ret
      exact ⟨⟨A5, c5, rfl, owns_base (by have := hown.out; rwa [hall.out] at this) (Nat.le_add_right _ 2)⟩, hbw⟩
end Go.Proofs
