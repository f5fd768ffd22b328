import Derived.Test.YtpmliaildjomeaaGreatDoorMg21
import Derived.Test.YtpmliaildjomeaaGreatDoorMg15
import Derived.Test.YtpmliaildjomeaaGreatDoorMg19
import Derived.Test.YtpmliaildjomeaaGreatDoorMg16
import Derived.Test.YtpmliaildjomeaaGreatDoorMg7
set_option linter.unusedSimpArgs false
set_option linter.unusedVariables false
namespace Go.Proofs
open Go.RowKit
attribute [local go_sem] Oper.semAt_some

theorem choices_any (n k : Nat) (w : World) : Calls Tryz.prog 81 #[.int .i64 n, .int .i64 k] w fun e w' =>
    (e = .returned (.func (.func 107) #[] #[.pointer (some ⟨w.heap.size + 1, 0, none⟩), .pointer (some ⟨w.heap.size, 0, none⟩)]) ∧ w'.heap[w.heap.size + 1]? = some (.cells #[.int .i64 k] 3 (0, 0)) ∧ w'.heap[w.heap.size]? = some (.cells #[.int .i64 n] 3 (0, 0))) ∧ Below w.heap.size w w' := by
  go_enter Tryz.func81, Tryz.ntmps81
  go_wp2
  go_ret
  exact ⟨⟨rfl, by (repeat (first | assumption | (refine bk_new _ _ ?_; (simp; done)) | refine bk_drew ?_ | refine bk_alloc ?_ _ | refine bk_set ?_ (by simp <;> omega) _)), by (repeat (first | assumption | (refine bk_new _ _ ?_; (simp; done)) | refine bk_drew ?_ | refine bk_alloc ?_ _ | refine bk_set ?_ (by simp <;> omega) _))⟩, by go_grown⟩
theorem asc_nodup {b : Nat} : ∀ {l : List Nat} {a : Nat}, Asc a b l → l.Nodup
  | [], _, _ => List.nodup_nil
  | x :: t, a, h => by
    refine List.nodup_cons.2 ⟨fun hx => ?_, asc_nodup h.2.2⟩
    have := (Asc.lt h.2.2 x hx).1
    omega
theorem zerosL_of {np nb : Nat} {l : List Nat} (h : Asc 0 nb l) : (∀ i ∈ zerosL np l, i < np) ∧ (zerosL np l).Nodup := by
  refine ⟨fun i hi => ?_, List.Nodup.sublist List.filter_sublist (asc_nodup h)⟩
  have := (List.mem_filter.1 hi).2
  simpa using this
theorem tightL_of {np en : Nat} {l : List Nat} (h : Asc 0 (np + en) l) : (∀ i ∈ tightL np l, i < en) ∧ (tightL np l).Nodup := by
  refine ⟨fun i hi => ?_, ?_⟩
  · obtain ⟨j, hj, rfl⟩ := List.mem_map.1 hi
    obtain ⟨h1, h2⟩ := List.mem_filter.1 hj
    have := (Asc.lt h j h1).2
    have h2' : np ≤ j := by simpa using h2
    omega
  · have h1 := List.Nodup.sublist (List.filter_sublist (p := fun x => decide (np ≤ x))) (asc_nodup h)
    have h2 : ∀ x ∈ l.filter (np ≤ ·), np ≤ x := fun x hx => by simpa using (List.mem_filter.1 hx).2
    unfold tightL
    generalize l.filter (np ≤ ·) = m at h1 h2
    induction m with
    | nil => exact List.nodup_nil
    | cons x m ih =>
      obtain ⟨g1, g2⟩ := List.nodup_cons.1 h1
      refine List.nodup_cons.2 ⟨fun hx => ?_, ih g2 fun y hy => h2 y (List.mem_cons_of_mem _ hy)⟩
      obtain ⟨y, hy, e⟩ := List.mem_map.1 hx
      have a1 := h2 x (by simp)
      have a2 := h2 y (List.mem_cons_of_mem _ hy)
      have e2 : y - np = x - np := e
      have : y = x := by omega
      exact g1 (this ▸ hy)
theorem zt_len (np : Nat) (l : List Nat) : (zerosL np l).length + (tightL np l).length = l.length := by
  unfold zerosL tightL
  rw [List.length_map]
  induction l with
  | nil => rfl
  | cons x l ih =>
    by_cases h : x < np
    · have h2 : ¬ np ≤ x := by omega
      simp [h, h2]
      omega
    · have h2 : np ≤ x := by omega
      simp [h, h2]
      omega
theorem results_cell3 {P : Program} {fn : Func} {p1 p2 p3 : Tmp} {t1 t2 t3 : TypeId} (h : fn.results = #[.cell p1 t1, .cell p2 t2, .cell p3 t3]) {tmps : Array Value} {w : World} {a1 a2 a3 : Addr} {v1 v2 v3 : Value} (h1 : tmps.getD p1 undef = .pointer (some a1)) (h2 : tmps.getD p2 undef = .pointer (some a2)) (h3 : tmps.getD p3 undef = .pointer (some a3))
    (l1 : (loadVar t1 a1).run P w = .ok v1 w) (l2 : (loadVar t2 a2).run P w = .ok v2 w) (l3 : (loadVar t3 a3).run P w = .ok v3 w) : (results fn tmps).run P w = .ok (.tuple #[v1, v2, v3]) w := by
  unfold results
  rw [h]
  simp only [List.mapM_toArray, List.mapM_cons, List.mapM_nil, h1, h2, h3, Sem.run_bind, Sem.run_pure, run_asAddr, Result.andThen_ok, l1, l2, l3, bind_assoc, pure_bind, map_eq_pure_bind]
  rfl
theorem run_loadBool {P : Program} {t : TypeId} {w : World} {b : Nat} {v : Bool} (hag : (isAgg t).run P w = .ok false w) (hb : w.cell? ⟨b, 0, none⟩ = some (.bool v)) : (loadVar t ⟨b, 0, none⟩).run P w = .ok (.bool v) w := by
  simp [loadVar, go_sem, hag, hb]
theorem run_store_bool {P : Program} {f : Operand → Value} {o : Oper} {t : TypeId} {p q : Operand} {b off : Nat} {n : Bool} {u : Value} {x : World} (ho : o.op = .store t p q) (hsz : Sem.run P (sizeOf t) x = .ok 1 x) (hp : f p = .pointer (some ⟨b, off, none⟩)) (hq : f q = .bool n) (hc : x.cell? ⟨b, off, none⟩ = some u) (hf : x.frozen? ⟨b, off, none⟩ = false) :
    (execOp f o).run P x = .ok .skip (x.setCell ⟨b, off, none⟩ (.bool n)) := by
  unfold execOp
  rw [ho]
  simp [go_sem, hp, hq, hc, hf, hsz]
theorem wpIn_seq_hid {F : Fence} {n : Nat} {P : Program} {x y : Code} {Q : Exit → Act → World → Prop} {a : Act} {w : World} (h : x.wpIn F n P (Exit.then (fun a w => Hid (y.wpIn F n P Q a w)) Q) a w) : (Code.seq x y).wpIn F n P Q a w := wpIn_seq h
theorem noDef {l : List Oper} (h : l.all (fun o => match o.op with | .defer _ => false | _ => true) = true) : ∀ o ∈ l.toArray, ∀ c, o.op ≠ .defer c := by
  intro o ho c hc
  have := List.all_eq_true.1 h o (by simpa using ho)
  rw [hc] at this
  cases this
theorem wp_worldM {F : Fence} {n : Nat} {P : Program} {fn : Func} {R : Ending → World → Prop} {e : Exit} {a : Act} {w : World} (h : ∀ W, W = w → bodyPostM F n P fn R e a W) : bodyPostM F n P fn R e a w := h w rfl
theorem wp_worldIn {F : Fence} {n : Nat} {P : Program} {c : Code} {Q : Exit → Act → World → Prop} {a : Act} {w : World} (h : ∀ W, W = w → c.wpIn F n P Q a W) : c.wpIn F n P Q a w := h w rfl
def SvGot (q : Option (List Int × Int × Prf)) (np en n0 : Nat) (e : Ending) (w' : World) : Prop := match q with
  | none => e = .returned (.tuple #[.agg #[.int .i64 0, .slice none 0 0], .agg #[.int .i64 0, .int .i64 0, .slice none 0 0], .bool false])
  | some (m, d, p) => ∃ A c A2 c2, e = .returned (.tuple #[.agg #[.int .i64 d, .slice A np c], .agg #[.int .i64 p.den, .int .i64 p.lev, .slice A2 en c2], .bool true]) ∧
      w'.ownsRow n0 3 1 (.slice A np c) np (m.map (Value.int .i64)) ∧ w'.ownsRow n0 3 1 (.slice A2 en c2) en (p.W.map (Value.int .i64))
set_option maxRecDepth 100000 in
set_option maxHeartbeats 8000000 in
theorem solved_any (pA eA wA : Option Addr) (np pc en ec wc : Nat) (es : List En) (ws : List Int) (w : World) (hR : RightE es np) (hE : EnsAt w eA es) (hen : es.length = en) (hW : At 1 Zc w wA ws) (hwn : ws.length = np) (h1 : 1 ≤ np) (h5 : np ≤ 5) (hws : Small 400 ws) :
    Calls Tryz.prog 57 #[.agg #[(.slice pA np pc), (.slice eA en ec)], .slice wA np wc] w fun e w' => SvGot (solvedL np (exs es) ws) np en w.heap.size e w' ∧ Below w.heap.size w w' := by
  obtain ⟨X, hX⟩ : ∃ X, exs es = X := ⟨_, rfl⟩
  have hX' := Lib.hid hX
  rw [hX]
  clear hX
  refine (callsIn_wide (n := 6)).1 ?_
  refine callsIn_of_wp_marks Tryz.func57 rfl trivial ?_ rfl
  simp only [Tryz.ntmps57, List.size_toArray, List.length_cons, List.length_nil, Nat.reduceAdd, Nat.reduceSub, Array.replicate_succ, Array.replicate_zero, List.push_toArray, List.append_toArray, List.nil_append, List.cons_append]
  have hE8 := hR.n8
  have hw1 : IntKind.i64.wrap ((np : Int) + en) = ((np + en : Nat) : Int) := by rw [IntWalk.i64_in _ (by omega)]; omega
  have hw2 : IntKind.i64.wrap ((np : Int) - 1) = ((np - 1 : Nat) : Int) := by rw [IntWalk.i64_in _ (by omega)]; omega
  gi_wp2_with (refine ⟨trivial, ?_⟩; gi_at_call 81; refine (callsIn_wide.2 (choices_any _ _ _)).mono ?_; rintro e w1 ⟨⟨rfl, hc1, hc2⟩, hb1⟩)
  have hm : Hid ((Below w.heap.size w w1 ∧ w1.heap[w.heap.size]? = some (.cells #[(.slice pA np pc), (.slice eA en ec)] 25 (0, 0)) ∧ w1.heap[w.heap.size + 1]? = some (.cells #[.slice wA np wc] 33 (0, 0)) ∧ w1.heap[(w.heap.size + 1 + 1)]? = some (.cells #[.int .i64 0, .slice none 0 0] 62 (0, 0)) ∧ w1.heap[(w.heap.size + 1 + 1 + 1)]? = some (.cells #[.int .i64 0, .int .i64 0, .slice none 0 0] 35 (0, 0)) ∧ w1.heap[(w.heap.size + 1 + 1 + 1 + 1)]? = some (.cells #[.bool false] 4 (0, 0)))) := Lib.hid ⟨via (by go_grown) hb1, bk_keep hb1 (by (repeat (first | assumption | (refine bk_new _ _ ?_; (simp; done)) | refine bk_drew ?_ | refine bk_alloc ?_ _ | refine bk_set ?_ (by simp <;> omega) _))), bk_keep hb1 (by (repeat (first | assumption | (refine bk_new _ _ ?_; (simp; done)) | refine bk_drew ?_ | refine bk_alloc ?_ _ | refine bk_set ?_ (by simp <;> omega) _))), bk_keep hb1 (by (repeat (first | assumption | (refine bk_new _ _ ?_; (simp; done)) | refine bk_drew ?_ | refine bk_alloc ?_ _ | refine bk_set ?_ (by simp <;> omega) _))), bk_keep hb1 (by (repeat (first | assumption | (refine bk_new _ _ ?_; (simp; done)) | refine bk_drew ?_ | refine bk_alloc ?_ _ | refine bk_set ?_ (by simp <;> omega) _))), bk_keep hb1 (by (repeat (first | assumption | (refine bk_new _ _ ?_; (simp; done)) | refine bk_drew ?_ | refine bk_alloc ?_ _ | refine bk_set ?_ (by simp <;> omega) _)))⟩
  simp only [World.size_alloc] at hc1 hc2
  have hs1 := bk_size hc1
  clear hb1
  have hcn : (cmb 0 (np + en) (np - 1)).length = (cmb 0 (np + en) (np - 1)).length := rfl
  have hstops := choices1_stops 5 (np + en) (np - 1) (by omega) (by omega) (w.heap.size + 1 + 1 + 1 + 1 + 1 + 1) (w.heap.size + 1 + 1 + 1 + 1 + 1) (fun k => k = (w.heap.size + 1 + 1) ∨ k = (w.heap.size + 1 + 1 + 1) ∨ k = (w.heap.size + 1 + 1 + 1 + 1)) w1 hc1 hc2 (by rintro (h | h | h) <;> omega) (by rintro (h | h | h) <;> omega) (by rintro k (rfl | rfl | rfl) <;> omega)
  have hR' := Lib.hid hR
  have hE' := Lib.hid hE
  have hW' := Lib.hid hW
  have hen' := Lib.hid hen
  have hwn' := Lib.hid hwn
  have hws' := Lib.hid hws
  clear hR hE hW hen hwn hws hcn
  refine wp_rangeW rfl (by omega) (gf := 107) (lb := #[.pointer (some ⟨(w.heap.size + 1 + 1 + 1 + 1 + 1 + 1), 0, none⟩), .pointer (some ⟨(w.heap.size + 1 + 1 + 1 + 1 + 1), 0, none⟩)]) rfl trivial (enters_of Tryz.func107 (by kernel_rfl) rfl) hstops (by rintro k (rfl | rfl | rfl) <;> omega) (fun _ => rfl)
    (fun pre T W' => (Below w.heap.size w W' ∧ W'.heap[w.heap.size]? = some (.cells #[(.slice pA np pc), (.slice eA en ec)] 25 (0, 0)) ∧ W'.heap[w.heap.size + 1]? = some (.cells #[.slice wA np wc] 33 (0, 0)) ∧ W'.heap[(w.heap.size + 1 + 1)]? = some (.cells #[.int .i64 0, .slice none 0 0] 62 (0, 0)) ∧ W'.heap[(w.heap.size + 1 + 1 + 1)]? = some (.cells #[.int .i64 0, .int .i64 0, .slice none 0 0] 35 (0, 0)) ∧ W'.heap[(w.heap.size + 1 + 1 + 1 + 1)]? = some (.cells #[.bool false] 4 (0, 0))) ∧ w1.heap.size ≤ W'.heap.size ∧ ∀ x ∈ pre, solvedAt np X ws x.l = none)
    (fun c pre T W' => c = .ret ∧ ∃ (pre' : List ChV) (x : ChV) (m : List Int) (d : Int) (p : Prf) (A : Option Addr) (c1 : Nat) (A2 : Option Addr) (c2 : Nat), pre = pre' ++ [x] ∧ (∀ y ∈ pre', solvedAt np X ws y.l = none) ∧ solvedAt np X ws x.l = some (m, d, p) ∧
      (Below w.heap.size w W' ∧ W'.heap[w.heap.size]? = some (.cells #[(.slice pA np pc), (.slice eA en ec)] 25 (0, 0)) ∧ W'.heap[w.heap.size + 1]? = some (.cells #[.slice wA np wc] 33 (0, 0)) ∧ W'.heap[(w.heap.size + 1 + 1)]? = some (.cells #[.int .i64 d, .slice A np c1] 62 (0, 0)) ∧ W'.heap[(w.heap.size + 1 + 1 + 1)]? = some (.cells #[.int .i64 p.den, .int .i64 p.lev, .slice A2 en c2] 35 (0, 0)) ∧ W'.heap[(w.heap.size + 1 + 1 + 1 + 1)]? = some (.cells #[.bool true] 4 (0, 0))) ∧
      W'.ownsRow w1.heap.size 3 1 (.slice A np c1) np (m.map (Value.int .i64)) ∧ W'.ownsRow w1.heap.size 3 1 (.slice A2 en c2) en (p.W.map (Value.int .i64)) ∧ (∀ g, A = some g → T g.block) ∧ (∀ g, A2 = some g → T g.block))
    (fun pre T x a W' => ((Below w.heap.size w W' ∧ W'.heap[w.heap.size]? = some (.cells #[(.slice pA np pc), (.slice eA en ec)] 25 (0, 0)) ∧ W'.heap[w.heap.size + 1]? = some (.cells #[.slice wA np wc] 33 (0, 0)) ∧ W'.heap[(w.heap.size + 1 + 1)]? = some (.cells #[.int .i64 0, .slice none 0 0] 62 (0, 0)) ∧ W'.heap[(w.heap.size + 1 + 1 + 1)]? = some (.cells #[.int .i64 0, .int .i64 0, .slice none 0 0] 35 (0, 0)) ∧ W'.heap[(w.heap.size + 1 + 1 + 1 + 1)]? = some (.cells #[.bool false] 4 (0, 0))) ∧ w1.heap.size ≤ W'.heap.size ∧ ∀ x ∈ pre, solvedAt np X ws x.l = none) ∧ ((pre ++ [x]).map ChV.l <+: cmb 0 (np + en) (np - 1) ∧ IntsAt 3 W' x.b (natZ x.l) ∧ x.l.length = np - 1) ∧ a = { tmps := #[.agg #[(.slice pA np pc), (.slice eA en ec)], .slice wA np wc, .pointer (some ⟨w.heap.size, 0, none⟩), .pointer (some ⟨w.heap.size + 1, 0, none⟩), .pointer (some ⟨(w.heap.size + 1 + 1), 0, none⟩), .pointer (some ⟨(w.heap.size + 1 + 1 + 1), 0, none⟩), .pointer (some ⟨(w.heap.size + 1 + 1 + 1 + 1), 0, none⟩), .slice (some ⟨x.b, 0, none⟩) (np - 1) (np - 1), undef, undef, undef, undef, undef, .pointer (some ⟨w.heap.size, 0, none⟩), (.slice pA np pc), .int .i64 np, .pointer (some ⟨w.heap.size, 1, none⟩), (.slice eA en ec), .int .i64 en, .int .i64 ((np : Int) + (en : Int)), .pointer (some ⟨w.heap.size, 0, none⟩), (.slice pA np pc), .int .i64 np, .int .i64 ((np - 1 : Nat) : Int), .func (.func 107) #[] #[.pointer (some ⟨(w.heap.size + 1 + 1 + 1 + 1 + 1 + 1), 0, none⟩), .pointer (some ⟨(w.heap.size + 1 + 1 + 1 + 1 + 1), 0, none⟩)], .slice (some ⟨x.b, 0, none⟩) (np - 1) (np - 1), undef, undef, undef, undef, undef, undef, undef, undef, undef, undef, undef, undef, undef, undef, undef, undef, undef, undef, undef, undef, undef], defers := [] })
    ?hI ?hIx ?hAx ?h0 ?assign ?body ?done ?stop
  case hI =>
    rintro s T A W' row ⟨⟨m0, m1, m2, m3, m4, m5⟩, h3, h4⟩ hg hr
    have hk : ∀ {k : Nat} {o : Obj}, k < w1.heap.size → A.heap[k]? = some o → W'.heap[k]? = some o := fun hk ho => (hg.block _ (bk_size ho) (fun e => by have := (hr _ e.symm).1; omega)).trans ho
    exact ⟨⟨m0.grown hg m0.size (fun r e => by have := (hr r e).1; omega), hk (by omega) m1, hk (by omega) m2, hk (by omega) m3, hk (by omega) m4, hk (by omega) m5⟩, Nat.le_trans h3 hg.size, h4⟩
  case hIx =>
    rintro c s T A W' row ⟨rfl, pre', x, m, d, p, A1, c1, A2, c2, q1, q2, q3, ⟨m0, m1, m2, m3, m4, m5⟩, o1, o2, t1, t2⟩ hg hr
    have hk : ∀ {k : Nat} {o : Obj}, k < w1.heap.size → A.heap[k]? = some o → W'.heap[k]? = some o := fun hk ho => (hg.block _ (bk_size ho) (fun e => by have := (hr _ e.symm).1; omega)).trans ho
    refine ⟨rfl, pre', x, m, d, p, A1, c1, A2, c2, q1, q2, q3, ⟨m0.grown hg m0.size (fun r e => by have := (hr r e).1; omega), hk (by omega) m1, hk (by omega) m2, hk (by omega) m3, hk (by omega) m4, hk (by omega) m5⟩, ?_, ?_, t1, t2⟩
    · refine owns_grown o1 hg fun g e e2 => ?_
      cases A1 with
      | none => cases e
      | some a => cases e; exact (hr _ e2.symm).2.1 (t1 a rfl)
    · refine owns_grown o2 hg fun g e e2 => ?_
      cases A2 with
      | none => cases e
      | some a => cases e; exact (hr _ e2.symm).2.1 (t2 a rfl)
  case hAx =>
    rintro pre T x a W' l o o' hl hT hgv ho hc ⟨⟨⟨m0, m1, m2, m3, m4, m5⟩, h3, h4⟩, ⟨k1, k2, k3⟩, rfl⟩
    have hg := grownBy_putObj' W' l o'
    have hk : ∀ {k : Nat} {o : Obj}, k < w1.heap.size → W'.heap[k]? = some o → (W'.putObj l o').heap[k]? = some o := fun hk ho => (World.putObj_heap_other (by omega)).trans ho
    refine ⟨⟨⟨m0.grown hg m0.size (fun r e => by cases e; omega), hk (by omega) m1, hk (by omega) m2, hk (by omega) m3, hk (by omega) m4, hk (by omega) m5⟩, by rw [World.putObj_size]; exact h3, h4⟩, ⟨k1, ?_, k3⟩, rfl⟩
    unfold IntsAt at k2 ⊢
    rw [World.putObj_heap_other]
    · exact k2
    · rintro rfl
      rw [k2] at ho
      cases ho
      cases hc
  case h0 => exact ⟨hm.out, Nat.le_refl _, fun p hp => by cases hp⟩
  case assign =>
    rintro l pre T x W' hi hT hlen hok -
    unfold encC
    gi_wp2
    exact ⟨Lie.refl _ _, hi, hok, by trivial⟩
  case body =>
    rintro l pre T x a W' ⟨⟨⟨m0, m1, m2, m3, m4, m5⟩, h3, h4⟩, ⟨k1, k2, k3⟩, rfl⟩ hT hlen
    have hmem : x.l ∈ cmb 0 (np + en) (np - 1) := k1.subset (by simp)
    have hasc : Asc 0 (np + en) x.l := by have := cmb_asc 0 (np + en) (np - 1) _ hmem; rwa [Nat.zero_add] at this
    obtain ⟨z1, z2⟩ := zerosL_of (np := np) hasc
    obtain ⟨t1, t2⟩ := tightL_of hasc
    have hzt := zt_len np x.l
    have hBa := Lib.hid (by
      have := basisOf_any pA eA (some ⟨x.b, 0, none⟩) np pc en ec (np - 1) x.l W' k2.at' hasc h5 (by have := hen'.out; omega)
      rw [k3] at this
      exact this : Calls Tryz.prog 82 #[.agg #[(.slice pA np pc), (.slice eA en ec)], .slice (some ⟨x.b, 0, none⟩) (np - 1) (np - 1)] W' fun e w' => (∃ zv tv, e = .returned (.agg (basC (.slice pA np pc) (.slice eA en ec) zv tv (zerosL np x.l) (tightL np x.l)).toArray) ∧
        w'.ownsRow W'.heap.size 3 1 zv (zerosL np x.l).length ((natZ (zerosL np x.l)).map (Value.int .i64)) ∧ w'.ownsRow W'.heap.size 3 1 tv (tightL np x.l).length ((natZ (tightL np x.l)).map (Value.int .i64))) ∧ Below W'.heap.size W' w')
    have hsv : Hid (solvedAt np X ws x.l = match proofL X ws (zerosL np x.l) (tightL np x.l) with
      | none => none
      | some p => match mixLP np X (zerosL np x.l) (tightL np x.l) with
        | none => none
        | some (m, d) => some (m, d, p)) := rfl
    obtain ⟨z, hz⟩ : ∃ z, zerosL np x.l = z := ⟨_, rfl⟩
    obtain ⟨t, ht⟩ : ∃ t, tightL np x.l = t := ⟨_, rfl⟩
    rw [hz] at z1 z2 hzt hBa hsv
    rw [ht] at t1 t2 hzt hBa hsv
    have D0 := bk2 m1
    have D1 := bk1 m2
    have hs0 := bk_size m1
    have hpre := Lib.hid h4
    have z1' := Lib.hid z1
    have z2' := Lib.hid z2
    have t1' := Lib.hid t1
    have t2' := Lib.hid t2
    have hzt' := Lib.hid (show z.length + t.length + 1 = np by omega)
    clear hmem hasc hz ht z1 z2 t1 t2 k1 k2 k3 h4 hzt hw1 hw2 hc1 hc2
    have hs17 : ∀ x, (sizeOf 160).run Tryz.prog x = .ok 17 x := fun x => by kernel_rfl
    have ha17 : ∀ x, (isAgg 160).run Tryz.prog x = .ok true x := fun x => by kernel_rfl
    refine wpIn_block ?_
    refine wpIn_seq_k ?_
    intro K hK
    refine wpIn_region_lit (wpListIn_round ?hL _ _ _ (by kernel_rfl) ?_)
    case hL => rintro ⟨a, w, h⟩; exact h
    go_wp2_with (first
      | (go_at_call 82; refine hBa.out.mono ?_; rintro e w2 ⟨⟨zv, tv, rfl, oz, ot⟩, hb2⟩; obtain ⟨zA, zc, rfl⟩ := own_slice oz; obtain ⟨tA, tc, rfl⟩ := own_slice ot)
      | (refine wpList_store_block (by with_reducible rfl) (.tmp 8) (.tmp 28) 160 (by with_reducible rfl) w2.heap.size (basC (.slice pA np pc) (.slice eA en ec) (.slice zA z.length zc) (.slice tA t.length tc) z t) (basC (.slice none 0 0) (.slice none 0 0) (.slice none 0 0) (.slice none 0 0) [] []) 160 ?sp ?sq (hs17 _) ?sb rfl (basC_one rfl rfl rfl rfl) ?_))
    case sp => rfl
    case sq => rfl
    case sb => rw [basC_none]; exact bk_new _ _ rfl
    intro w3 hblk3 hg3 hsz3
    have hb3 : Below w2.heap.size w2 w3 := grown_below (new_below _ _) hg3 (fun b e => by cases e; exact Nat.le_refl _)
    have hb23 := via hb2 hb3
    have hs23 := hb23.size
    have hw2s : W'.heap.size ≤ w2.heap.size := hb2.size
    have oz3 := Lib.hid (owns_below oz hb3)
    have ot3 := Lib.hid (owns_below ot hb3)
    obtain ⟨BB, hBB⟩ : ∃ BB, w2.heap.size = BB := ⟨_, rfl⟩
    rw [hBB] at hblk3 hw2s ⊢
    have n1 := bk_keep hb23 m1
    have n2 := bk_keep hb23 m2
    have n3 := bk_keep hb23 m3
    have n4 := bk_keep hb23 m4
    have n5 := bk_keep hb23 m5
    have hbw3 := via m0 hb23
    clear hg3 hsz3 oz ot hb2 hb3 m1 m2 m3 m4 m5 m0 D0 D1 hBB hBa
    go_wp2
    have D1 := bk1 n2
    have hPf := Lib.hid (proof_any pA eA tA wA (.slice zA z.length zc) np pc en ec t.length tc wc es ws z t w3 hR'.out (hE'.out.below hbw3) hen'.out (own_ints ot3.out) rfl (hW'.out.below hbw3) hwn'.out h5 hws'.out z1'.out z2'.out t1'.out t2'.out hzt'.out rfl)
    rw [hX'.out] at hPf
    obtain ⟨q, hq⟩ : ∃ q, proofL X ws z t = q := ⟨_, rfl⟩
    have hsq := Lib.hid hq
    rw [hq] at hPf
    clear hq
    have hsB := bk_size hblk3
    have hT2 : ∀ r, T r → r < W'.heap.size := fun r h => (hT r h).2
    unfold PrfGot at hPf
    cases q with
    | none =>
      dsimp only at hPf
      have hno := Lib.hid (show solvedAt np X ws x.l = none by rw [hsv.out, hsq.out])
      refine wpIn_seq_k ?_
      intro K2 hK2
      refine wpIn_region_lit (wpListIn_round ?hL2 _ _ _ (by kernel_rfl) ?_)
      case hL2 => rintro ⟨a, w, h⟩; exact h
      go_wp2_with (first | (refine wpList_load_block (by with_reducible rfl) (.tmp 8) 160 (by with_reducible rfl) BB (basC (.slice pA np pc) (.slice eA en ec) (.slice zA z.length zc) (.slice tA t.length tc) z t) 160 ?lp (ha17 _) (hs17 _) ?lb ?_) | (go_at_call 83; refine hPf.out.mono ?_; rintro e w4 ⟨rfl, hb4⟩))
      case lp => rfl
      case lb => exact hblk3
      gi_wp2
      have hb4' := via hb23 hb4
      exact ⟨T, fun r h => .inl h, fun r hr => Nat.lt_of_lt_of_le (hT2 r hr) (via hb4' (new_below _ _)).size, .of_below _ (via hb4' (new_below _ _)), ⟨via hbw3 (via hb4 (new_below _ _)), bk_alloc (bk_keep hb4 n1) _, bk_alloc (bk_keep hb4 n2) _, bk_alloc (bk_keep hb4 n3) _, bk_alloc (bk_keep hb4 n4) _, bk_alloc (bk_keep hb4 n5) _⟩,
        Nat.le_trans h3 (via hb4' (new_below _ _)).size, fun y hy => by
          rcases List.mem_append.1 hy with h | h
          · exact hpre.out y h
          · rw [List.mem_singleton] at h; rw [h]; exact hno.out⟩
    | some p =>
      dsimp only at hPf
      refine wpIn_seq_k ?_
      intro K2 hK2
      refine wpIn_region_lit (wpListIn_round ?hL2 _ _ _ (by kernel_rfl) ?_)
      case hL2 => rintro ⟨a, w, h⟩; exact h
      have hK2 := Lib.hid hK2
      go_wp2_with (first | (refine wpList_load_block (by with_reducible rfl) (.tmp 8) 160 (by with_reducible rfl) BB (basC (.slice pA np pc) (.slice eA en ec) (.slice zA z.length zc) (.slice tA t.length tc) z t) 160 ?lp (ha17 _) (hs17 _) ?lb ?_) | (go_at_call 83; refine hPf.out.mono ?_; rintro e w4 ⟨⟨A2, c2, rfl, op4⟩, hb4⟩))
      case lp => rfl
      case lb => exact hblk3
      refine wpIn_seq_hid ?_
      gi_wp2
      refine Lib.hid ?_
      refine wp_worldIn ?_
      intro W5 hW5
      have hb5 : Below w4.heap.size w4 W5 := by rw [hW5]; exact new_below _ _
      have r35 : W5.heap[w4.heap.size]? = some (.cells #[.int .i64 p.den, .int .i64 p.lev, .slice A2 en c2] 35 (0, 0)) := by rw [hW5]; exact bk_new _ _ rfl
      obtain ⟨B9, hB9⟩ : ∃ B, w4.heap.size = B := ⟨_, rfl⟩
      have hb45 := via hb4 hb5
      have op5 := Lib.hid (owns_below op4 hb5)
      have q1 := bk_keep hb45 n1
      have q2 := bk_keep hb45 n2
      have q3 := bk_keep hb45 n3
      have q4 := bk_keep hb45 n4
      have q5 := bk_keep hb45 n5
      have hblk5 := bk_keep hb45 hblk3
      have hbw5 := via hbw3 hb45
      have hb25 := via hb23 hb45
      have hs9 : w3.heap.size ≤ B9 := by rw [← hB9]; exact hb4.size
      have oz5 := Lib.hid (owns_below oz3.out hb45)
      have ot5 := Lib.hid (owns_below ot3.out hb45)
      rw [hB9] at r35 ⊢
      clear hW5 hb4 hb5 op4 hB9 n1 n2 n3 n4 n5 hblk3 hbw3 hb23 oz3 ot3 D1 hPf
      have hMx := Lib.hid (mix_any pA eA zA tA np pc en ec z.length zc t.length tc es z t W5 hR'.out (hE'.out.below hbw5) hen'.out (own_ints oz5.out) rfl (own_ints ot5.out) rfl h5 z1'.out t1'.out hzt'.out)
      rw [hX'.out] at hMx
      obtain ⟨q, hq⟩ : ∃ q, mixLP np X z t = q := ⟨_, rfl⟩
      have hsm := Lib.hid hq
      rw [hq] at hMx
      clear hq
      unfold MixGot at hMx
      rcases q with _ | ⟨m, d⟩
      · dsimp only at hMx
        have hno := Lib.hid (show solvedAt np X ws x.l = none by rw [hsv.out, hsq.out]; simp only; rw [hsm.out])
        refine wpIn_seq_k ?_
        intro K4 hK4
        refine wpIn_region_lit (wpListIn_round ?hL4 _ _ _ (by kernel_rfl) ?_)
        case hL4 => rintro ⟨a, w, h⟩; exact h
        go_wp2_with (first | (refine wpList_load_block (by with_reducible rfl) (.tmp 8) 160 (by with_reducible rfl) BB (basC (.slice pA np pc) (.slice eA en ec) (.slice zA z.length zc) (.slice tA t.length tc) z t) 160 ?lp (ha17 _) (hs17 _) ?lb ?_) | (go_at_call 84; refine hMx.out.mono ?_; rintro e w6 ⟨rfl, hb6⟩))
        case lp => rfl
        case lb => exact hblk5
        gi_wp2
        have hb6' := via hb25 hb6
        exact ⟨T, fun r h => .inl h, fun r hr => Nat.lt_of_lt_of_le (hT2 r hr) (via hb6' (new_below _ _)).size, .of_below _ (via hb6' (new_below _ _)), ⟨via hbw5 (via hb6 (new_below _ _)), bk_alloc (bk_keep hb6 q1) _, bk_alloc (bk_keep hb6 q2) _, bk_alloc (bk_keep hb6 q3) _, bk_alloc (bk_keep hb6 q4) _, bk_alloc (bk_keep hb6 q5) _⟩,
          Nat.le_trans h3 (via hb6' (new_below _ _)).size, fun y hy => by
            rcases List.mem_append.1 hy with h | h
            · exact hpre.out y h
            · rw [List.mem_singleton] at h; rw [h]; exact hno.out⟩
      · dsimp only at hMx
        have hyes := Lib.hid (show solvedAt np X ws x.l = some (m, d, p) by rw [hsv.out, hsq.out]; simp only; rw [hsm.out])
        refine wpIn_seq_k ?_
        intro K4 hK4
        refine wpIn_region_lit (wpListIn_round ?hL4 _ _ _ (by kernel_rfl) ?_)
        case hL4 => rintro ⟨a, w, h⟩; exact h
        go_wp2_with (first | (refine wpList_load_block (by with_reducible rfl) (.tmp 8) 160 (by with_reducible rfl) BB (basC (.slice pA np pc) (.slice eA en ec) (.slice zA z.length zc) (.slice tA t.length tc) z t) 160 ?lp (ha17 _) (hs17 _) ?lb ?_) | (go_at_call 84; refine hMx.out.mono ?_; rintro e w6 ⟨⟨A, c1, rfl, om6⟩, hb6⟩))
        case lp => rfl
        case lb => exact hblk5
        refine wpIn_seq_hid ?_
        gi_wp2
        refine Lib.hid ?_
        refine wpIn_cond_true rfl ?_
        refine wpIn_seq_hid ?_
        refine wp_worldIn ?_
        intro W7 hW7
        have hb7 : Below w6.heap.size w6 W7 := by rw [hW7]; exact new_below _ _
        have r11 : W7.heap[w6.heap.size]? = some (.cells #[.int .i64 d, .slice A np c1] 62 (0, 0)) := by rw [hW7]; exact bk_new _ _ rfl
        obtain ⟨B11, hB11⟩ : ∃ B, w6.heap.size = B := ⟨_, rfl⟩
        have hb67 := via hb6 hb7
        have r9 := bk_keep hb67 r35
        have p1 := bk_keep hb67 q1
        have p2 := bk_keep hb67 q2
        have p3 := bk_keep hb67 q3
        have p4 := bk_keep hb67 q4
        have p5 := bk_keep hb67 q5
        have hbw7 := via hbw5 hb67
        have hb27 := via hb25 hb67
        have om7 := Lib.hid (owns_below om6 hb7)
        have op7 := Lib.hid (owns_below op5.out hb67)
        have hs5 := bk_size r35
        have hs11 : W5.heap.size ≤ B11 := by rw [← hB11]; exact hb6.size
        have hs25 := hb25.size
        rw [hB11] at r11 ⊢
        clear hW7 hb6 hb7 om6 hB11 q1 q2 q3 q4 q5 hblk5 hbw5 hb45 oz5 ot5 hMx op5 r35
        refine wpIn_region_any (by kernel_rfl) (wpAnyIn_round ?hd8 ?hL8 _ _ _ _ ?_)
        case hd8 => exact noDef (by kernel_rfl)
        case hL8 => rintro ⟨a, w, h⟩; exact h
        apply any_st3 w 2 3 4 (w.heap.size + 1 + 1) (w.heap.size + 1 + 1 + 1) (w.heap.size + 1 + 1 + 1 + 1) (.cells #[.int .i64 0, .slice none 0 0] 62 (0, 0)) (.cells #[.int .i64 d, .slice A np c1] 62 (0, 0)) (.cells #[.int .i64 0, .int .i64 0, .slice none 0 0] 35 (0, 0)) (.cells #[.int .i64 p.den, .int .i64 p.lev, .slice A2 en c2] 35 (0, 0)) (.cells #[.bool false] 4 (0, 0)) (.cells #[.bool true] 4 (0, 0))
        case hB => kernel_rfl
        case hB' => kernel_rfl
        case hS => kernel_rfl
        case hN => kernel_rfl
        case hne => decide
        case hkd => kernel_rfl
        case hw => exact hbw7
        case hb => exact ⟨by omega, by omega, by omega⟩
        case hbn => exact ⟨by omega, by omega, by omega⟩
        case h4 => exact p3
        case h5 => exact p4
        case h6 => exact p5
        case hq =>
          intro u hu hgc
          have D11 := bk2 ((hu.2.2 B11 (bk_size r11) (by omega) (by omega) (by omega)).trans r11)
          have D9 := bk3 ((hu.2.2 B9 (bk_size r9) (by omega) (by omega) (by omega)).trans r9)
          simp only [mixL, yieldsC, List.contains_cons, List.contains_nil, Nat.reduceAdd, Nat.reduceBEq, Nat.zero_add, Bool.or_false, Bool.or_true, Bool.false_or, Bool.true_or, Bool.false_eq_true, if_true, if_false, Bool.or_self, Nat.reduceEqDiff]
          repeat (go_big_quiet_step (fail))
          exact wpQuiet_nil rfl
        case hs4 =>
          intro o ho y hy hz
          simp only [List.getElem?_cons_succ, List.getElem?_cons_zero, Option.some.injEq] at ho
          subst ho
          exact ⟨_, run_store2 rfl rfl rfl (by kernel_rfl) (by kernel_rfl) (by kernel_rfl) hz, ((OnlyB.refl _ _).set _ _).set _ _, bk_here (bk_here hz _ rfl) _ rfl⟩
        case hs5 =>
          intro o ho y hy hz
          simp only [List.getElem?_cons_succ, List.getElem?_cons_zero, Option.some.injEq] at ho
          subst ho
          exact ⟨_, run_store3 rfl rfl rfl rfl (by kernel_rfl) (by kernel_rfl) (by kernel_rfl) hz, (((OnlyB.refl _ _).set _ _).set _ _).set _ _, bk_here (bk_here (bk_here hz _ rfl) _ rfl) _ rfl⟩
        case hs6 =>
          intro o ho y hy hz
          simp only [List.getElem?_cons_succ, List.getElem?_cons_zero, Option.some.injEq] at ho
          subst ho
          exact ⟨_, run_store_bool (n := true) rfl (by kernel_rfl) (by kernel_rfl) (by kernel_rfl) (bk1 hz).1 (bk1 hz).2.1, (OnlyB.refl _ _).set _ _, bk_here hz _ rfl⟩
        intro y hy hz2 hz3 hz4
        refine Lib.hid ?_
        refine wpIn_ret ?_
        have hy7 := hy.2.1
        have hs27 := hb27.size
        have hA : ∀ g, A = some g → W5.heap.size ≤ g.block ∧ g.block < W7.heap.size := fun g e => by subst e; exact om7.out.lt g.block rfl
        have hA2 : ∀ g, A2 = some g → w3.heap.size ≤ g.block ∧ g.block < W7.heap.size := fun g e => by subst e; exact op7.out.lt g.block rfl
        have hkeep : ∀ {k : Nat} {o : Obj}, k < w1.heap.size → k ≠ (w.heap.size + 1 + 1) → k ≠ (w.heap.size + 1 + 1 + 1) → k ≠ (w.heap.size + 1 + 1 + 1 + 1) → W7.heap[k]? = some o → y.heap[k]? = some o := fun hk k1 k2 k3 ho => (hy.2.2 _ (bk_size ho) k1 k2 k3).trans ho
        refine ⟨fun r => T r ∨ (∃ g, A = some g ∧ r = g.block) ∨ (∃ g, A2 = some g ∧ r = g.block), ?_, ?_, ⟨by omega, fun k hk hn => ?_⟩, ?_⟩
        · rintro r (h | ⟨g, e, rfl⟩ | ⟨g, e, rfl⟩)
          · exact .inl h
          · have := (hA g e).1; exact .inr (by omega)
          · have := (hA2 g e).1; exact .inr (by omega)
        · rintro r (h | ⟨g, e, rfl⟩ | ⟨g, e, rfl⟩)
          · have := hT2 r h; omega
          · have := (hA g e).2; omega
          · have := (hA2 g e).2; omega
        · exact (hy.2.2 k (by omega) (fun e => hn (.inl (.inl e))) (fun e => hn (.inl (.inr (.inl e)))) (fun e => hn (.inl (.inr (.inr e))))).trans (hb27.block k hk)
        · refine ⟨rfl, pre, x, m, d, p, A, c1, A2, c2, rfl, hpre.out, hyes.out, ⟨hy.1, hkeep (by omega) (by omega) (by omega) (by omega) p1, hkeep (by omega) (by omega) (by omega) (by omega) p2, hz2, hz3, hz4⟩, ?_, ?_, fun g e => .inr (.inl ⟨g, e, rfl⟩), fun g e => .inr (.inr ⟨g, e, rfl⟩)⟩
          · refine owns_base (owns_kept om7.out fun g e => ?_) (show w1.heap.size ≤ W5.heap.size by omega)
            have := om7.out.lt g e
            exact hy.2.2 g this.2 (by omega) (by omega) (by omega)
          · refine owns_base (owns_kept op7.out fun g e => ?_) (show w1.heap.size ≤ w3.heap.size by omega)
            have := op7.out.lt g e
            exact hy.2.2 g this.2 (by omega) (by omega) (by omega)
  case done =>
    rintro D xs T W' hS ⟨⟨m0, m1, m2, m3, m4, m5⟩, h3, h4⟩ rfl hK
    have hnone : solvedL np X ws = none := by
      unfold solvedL
      rw [← hX'.out, exs_len, hen'.out, hX'.out, ← hS, List.findSome?_eq_none_iff]
      intro l hl
      obtain ⟨x, hx, rfl⟩ := List.mem_map.1 hl
      exact h4 x hx
    have C2 := bk2 m3
    have C3 := bk3 m4
    have C4 := bk1 m5
    gi_wp2
    refine wp_worldM ?_
    intro W9 hW9
    have hK2 : W9.heap[w1.heap.size]? = some (.deferred (some [])) := by
      rw [hW9]
      repeat (refine bk_set ?_ (by dsimp only; omega) _)
      exact hK
    have u2 : W9.heap[(w.heap.size + 1 + 1)]? = some (.cells #[.int .i64 0, .slice none 0 0] 62 (0, 0)) := by
      rw [hW9]
      repeat (refine bk_set ?_ (by dsimp only; omega) _)
      exact bk_here (bk_here m3 _ rfl) _ rfl
    have u3 : W9.heap[(w.heap.size + 1 + 1 + 1)]? = some (.cells #[.int .i64 0, .int .i64 0, .slice none 0 0] 35 (0, 0)) := by
      rw [hW9]
      repeat (refine bk_set ?_ (by dsimp only; omega) _)
      exact bk_here (bk_here (bk_here (bk_set (bk_set m4 (by dsimp only; omega) _) (by dsimp only; omega) _) _ rfl) _ rfl) _ rfl
    have u4 : W9.heap[(w.heap.size + 1 + 1 + 1 + 1)]? = some (.cells #[.bool false] 4 (0, 0)) := by
      rw [hW9]
      exact bk_here (bk_set (bk_set (bk_set (bk_set (bk_set m5 (by dsimp only; omega) _) (by dsimp only; omega) _) (by dsimp only; omega) _) (by dsimp only; omega) _) (by dsimp only; omega) _) _ rfl
    have hbb : Below w.heap.size w W9 := by
      rw [hW9]
      repeat (refine Below.setCell ?_ (by dsimp only; omega) _)
      exact m0
    clear hW9
    refine ⟨by simp, .inl ⟨_, _, rfl, run_takeDeferred hK2, ?_⟩⟩
    refine ⟨.tuple #[.agg #[.int .i64 0, .slice none 0 0], .agg #[.int .i64 0, .int .i64 0, .slice none 0 0], .bool false], ?_, ?_, hbb.grown (grownBy_putObj' _ _ _) hbb.size (fun r e => by cases e; omega)⟩
    · refine results_cell3 (p1 := 4) (p2 := 5) (p3 := 6) (a1 := ⟨(w.heap.size + 1 + 1), 0, none⟩) (a2 := ⟨(w.heap.size + 1 + 1 + 1), 0, none⟩) (a3 := ⟨(w.heap.size + 1 + 1 + 1 + 1), 0, none⟩) rfl (by rfl) (by rfl) (by rfl) (run_loadBlock (T := 62) (cs := [.int .i64 0, .slice none 0 0]) (by kernel_rfl) (by kernel_rfl) ?_) (run_loadBlock (T := 35) (cs := [.int .i64 0, .int .i64 0, .slice none 0 0]) (by kernel_rfl) (by kernel_rfl) ?_) (run_loadBool (by kernel_rfl) ?_)
      · exact (World.putObj_heap_other (by omega)).trans u2
      · exact (World.putObj_heap_other (by omega)).trans u3
      · exact (bk1 ((World.putObj_heap_other (by omega)).trans u4)).1
    · unfold SvGot
      rw [hnone]
  case stop =>
    rintro D c pre T W' hS ⟨rfl, pre', x, m, d, p, A, c1, A2, c2, rfl, q2, q3, ⟨m0, m1, m2, m3, m4, m5⟩, o1, o2, -, -⟩ rfl hK
    have hsome : solvedL np X ws = some (m, d, p) := by
      unfold solvedL
      rw [← hX'.out, exs_len, hen'.out, hX'.out]
      obtain ⟨rest, hr⟩ := hS
      rw [← hr, List.map_append, List.append_assoc, List.findSome?_append, show (pre'.map ChV.l).findSome? (solvedAt np X ws) = none by
        rw [List.findSome?_eq_none_iff]
        intro l hl
        obtain ⟨y, hy, rfl⟩ := List.mem_map.1 hl
        exact q2 y hy]
      simp [q3]
    gi_wp2
    refine ⟨by simp, .inl ⟨_, _, rfl, run_takeDeferred hK, ?_⟩⟩
    refine ⟨.tuple #[.agg #[.int .i64 d, .slice A np c1], .agg #[.int .i64 p.den, .int .i64 p.lev, .slice A2 en c2], .bool true], ?_, ?_, m0.grown (grownBy_putObj' _ _ _) m0.size (fun r e => by cases e; omega)⟩
    · refine results_cell3 (p1 := 4) (p2 := 5) (p3 := 6) (a1 := ⟨(w.heap.size + 1 + 1), 0, none⟩) (a2 := ⟨(w.heap.size + 1 + 1 + 1), 0, none⟩) (a3 := ⟨(w.heap.size + 1 + 1 + 1 + 1), 0, none⟩) rfl (by rfl) (by rfl) (by rfl) (run_loadBlock (T := 62) (cs := [.int .i64 d, .slice A np c1]) (by kernel_rfl) (by kernel_rfl) ?_) (run_loadBlock (T := 35) (cs := [.int .i64 p.den, .int .i64 p.lev, .slice A2 en c2]) (by kernel_rfl) (by kernel_rfl) ?_) (run_loadBool (by kernel_rfl) ?_)
      · exact (World.putObj_heap_other (by omega)).trans m3
      · exact (World.putObj_heap_other (by omega)).trans m4
      · exact (bk1 ((World.putObj_heap_other (by omega)).trans m5)).1
    · have hne : ∀ {v : Value} {k : Nat} {xs : List Value}, W'.ownsRow w1.heap.size 3 1 v k xs → (W'.putObj w1.heap.size (.deferred none)).ownsRow w.heap.size 3 1 v k xs := fun {v k xs} h => by
        refine owns_base (owns_kept h fun g e => World.putObj_heap_other fun e2 => ?_) (by omega)
        rcases h.2 with ⟨rfl, -⟩ | ⟨g', cap, cur, rfl, -, hg3, -⟩
        · cases e
        · have e3 : g' = g := Option.some.inj e
          rw [e3, e2, hK] at hg3
          cases hg3
      unfold SvGot
      rw [hsome]
      exact ⟨A, c1, A2, c2, rfl, hne o1, hne o2⟩
end Go.Proofs

set_option linter.unusedSimpArgs false
set_option linter.unusedVariables false
namespace Go.Proofs
open Go.RowKit

theorem own_ne {A : Option Addr} {b r n c : Nat} (hn : ¬ ∃ a, A = some a ∧ b = a.block) (e : (Value.slice A n c).ownBlock = some r) : r ≠ b := by
  rintro rfl
  cases A with
  | none => cases e
  | some a => cases e; exact hn ⟨a, rfl, rfl⟩
theorem own_lt {w : World} {base n c b : Nat} {e : TypeId} {A : Option Addr} {xs : List Value} (h : w.ownsRow base e 1 (.slice A n c) n xs) (hb : ∃ a, A = some a ∧ b = a.block) : base ≤ b ∧ b < w.heap.size := by
  obtain ⟨a, rfl, rfl⟩ := hb
  exact h.lt a.block rfl
/-! The least value. -/
theorem solvedL_at {np : Nat} {es : List Ex} {ws : List Int} {m : List Int} {d : Int} {p : Prf} (h : solvedL np es ws = some (m, d, p)) :
    ∃ l ∈ cmb 0 (np + es.length) (np - 1), proofL es ws (zerosL np l) (tightL np l) = some p ∧ mixLP np es (zerosL np l) (tightL np l) = some (m, d) := by
  unfold solvedL at h
  obtain ⟨l, hl, hs⟩ := List.exists_of_findSome?_eq_some h
  refine ⟨l, hl, ?_⟩
  unfold solvedAt at hs
  split at hs
  · cases hs
  · rename_i q hq
    split at hs
    · cases hs
    · rename_i m' d' hm
      cases hs
      exact ⟨hq, hm⟩
theorem cmb_zt {np en : Nat} {l : List Nat} (h1 : 1 ≤ np) (hl : l ∈ cmb 0 (np + en) (np - 1)) : (∀ i ∈ zerosL np l, i < np) ∧ (zerosL np l).Nodup ∧ (∀ i ∈ tightL np l, i < en) ∧ (tightL np l).Nodup ∧ (zerosL np l).length + (tightL np l).length + 1 = np := by
  have hasc := cmb_asc 0 (np + en) (np - 1) _ hl
  rw [Nat.zero_add] at hasc
  have hlen := cmb_len 0 (np + en) (np - 1) _ hl
  obtain ⟨z1, z2⟩ := zerosL_of (np := np) hasc
  obtain ⟨t1, t2⟩ := tightL_of hasc
  have := zt_len np l
  exact ⟨z1, z2, t1, t2, by omega⟩
theorem mix_small {es : List En} {np : Nat} (hR : RightE es np) {z t : List Nat} {m : List Int} {d : Int} (h : mixLP np (exs es) z t = some (m, d)) (h5 : np ≤ 5) (hzt : z.length + t.length + 1 = np) : d.natAbs ≤ 1228800000000000 := by
  unfold mixLP at h
  split at h
  · cases h
  rename_i l den hs
  have hsm := solL_small hs (by rw [mixRows_len]; omega) (mixRows_small hR z t)
  split at h
  · cases h
  split at h
  · cases h
  obtain ⟨rfl, rfl⟩ : _ ∧ _ := by simpa using h
  have hg : 0 < gcdL 0 (den :: l) := gcdL_pos den (by simp) (by omega)
  have := (div_dvd (g := (gcdL 0 (den :: l) : Int)) (by omega) ((gcdL_dvd (den :: l) 0).2 den (by simp))).2
  omega
/-- What is known of what is found. -/
structure SvOf (ps : List Pa) (es : List En) (ws m : List Int) (d : Int) (p : Prf) : Prop where
  len : m.length = ps.length
  d0 : 0 < d
  dK : d.natAbs ≤ 1228800000000000
  nn : ∀ x ∈ m, 0 ≤ x
  sum : m.sum = d
  per : ∀ x ∈ exs es, dotL x.1 m ≤ x.2 * d
theorem svOf {ps : List Pa} {es : List En} (hB : BookR ps es) {ws m : List Int} {d : Int} {p : Prf} (h : solvedL ps.length (exs es) ws = some (m, d, p)) : SvOf ps es ws m d p := by
  obtain ⟨l, hl, -, hm⟩ := solvedL_at h
  have h1 := hB.n1
  have h5 := hB.n5
  rw [exs_len] at hl
  obtain ⟨z1, z2, t1, t2, hzt⟩ := cmb_zt h1 hl
  have hM := mixLP_of hm h1 h5 (fun x hx => by
    obtain ⟨y, hy, rfl⟩ := List.mem_map.1 hx
    exact (hB.right.co y hy).1) z1 (fun i hi => by rw [exs_len]; exact t1 i hi) hzt
  exact ⟨hM.len, hM.den, mix_small hB.right hm h5 hzt, hM.nn, hM.sum, hM.per⟩
theorem sum_le : ∀ (m : List Int), (∀ x ∈ m, 0 ≤ x) → ∀ x ∈ m, x ≤ m.sum
  | [], _, x, h => by cases h
  | y :: m, hn, x, h => by
    have h0 := hn y (by simp)
    have hs : ∀ m : List Int, (∀ x ∈ m, 0 ≤ x) → 0 ≤ m.sum := fun m => by
      induction m with
      | nil => intro _; simp
      | cons z m ih => intro h; have := h z (by simp); have := ih fun x hx => h x (by simp [hx]); simp only [List.sum_cons]; omega
    have h1 := hs m fun x hx => hn x (by simp [hx])
    simp only [List.sum_cons]
    rcases List.mem_cons.1 h with rfl | h
    · omega
    · have := sum_le m (fun x hx => hn x (by simp [hx])) x h
      omega
theorem SvOf.small {ps : List Pa} {es : List En} {ws m : List Int} {d : Int} {p : Prf} (h : SvOf ps es ws m d p) : Small 1228800000000000 m := fun x hx => by
  have := sum_le m h.nn x hx
  rw [h.sum] at this
  have := h.nn x hx
  have := h.dK
  omega
theorem dot_le : ∀ (a m : List Int) (K : Nat), Small K a → (∀ x ∈ m, 0 ≤ x) → (dotL a m).natAbs ≤ K * m.sum.natAbs
  | [], m, K, _, _ => by cases m <;> simp [dotL]
  | _ :: _, [], K, _, _ => by simp [dotL]
  | x :: a, y :: m, K, ha, hm => by
    simp only [dotL, List.sum_cons]
    have h1 := dot_le a m K (fun z hz => ha z (by simp [hz])) fun z hz => hm z (by simp [hz])
    have hy := hm y (by simp)
    have hs : 0 ≤ m.sum := by
      have := sum_le (0 :: m) (fun z hz => by rcases List.mem_cons.1 hz with rfl | hz; omega; exact hm z (by simp [hz])) 0 (by simp)
      simpa using this
    have h2 := abs_mul (ha x (by simp)) (Nat.le_refl y.natAbs)
    have e : (y + m.sum).natAbs = y.natAbs + m.sum.natAbs := by omega
    rw [e, Nat.mul_add]
    omega
theorem SvOf.dot {ps : List Pa} {es : List En} {ws m : List Int} {d : Int} {p : Prf} (h : SvOf ps es ws m d p) (hw : Small 400 ws) : (dotL ws m).natAbs ≤ 1000000000000000000 := by
  have := dot_le ws m 400 hw h.nn
  rw [h.sum] at this
  have := h.dK
  omega
def leNone : Value := .agg #[.int .i64 0, .int .i64 0, .int .i64 0, .slice none 0 0, .int .i64 0, .int .i64 0, .slice none 0 0]
def LeGot (ps : List Pa) (es : List En) (k ag : Int) (n0 : Nat) (e : Ending) (w' : World) : Prop :=
  if bothE ps es k ag ≠ 0 then e = .returned (.tuple #[leNone, .int .i64 (bothE ps es k ag)])
  else match solvedL ps.length (exs es) (worthL ps k ag) with
    | none => e = .returned (.tuple #[leNone, .int .i64 12])
    | some (m, d, p) => ∃ A c A2 c2, e = .returned (.tuple #[.agg #[.int .i64 (dotL (worthL ps k ag) m / lowG (dotL (worthL ps k ag) m) d), .int .i64 (d / lowG (dotL (worthL ps k ag) m) d), .int .i64 d, .slice A ps.length c, .int .i64 p.den, .int .i64 p.lev, .slice A2 es.length c2], .int .i64 0]) ∧
        w'.ownsRow n0 3 1 (.slice A ps.length c) ps.length (m.map (Value.int .i64)) ∧ w'.ownsRow n0 3 1 (.slice A2 es.length c2) es.length (p.W.map (Value.int .i64))
set_option maxRecDepth 100000 in
set_option maxHeartbeats 4000000 in
theorem least_any (pA eA : Option Addr) (pc ec pn en : Nat) (ps : List Pa) (es : List En) (k ag : Int) (w : World) (hB : BookAt w pA pc ps eA ec es) (hF : FewB ps es) (hpn : ps.length = pn) (hen : es.length = en) :
    Calls Tryz.prog 23 #[.agg #[.slice pA pn pc, .slice eA en ec], .agg #[.int .i64 k, .int .i64 ag]] w fun e w' => LeGot ps es k ag w.heap.size e w' ∧ Below w.heap.size w w' := by
  have hBo := Lib.hid fun W (hb : Below w.heap.size w W) => bothErr_any pA eA pc ec pn en ps es k ag W (hB.below hb) hF hpn hen
  have hWo := Lib.hid fun W (hb : Below w.heap.size w W) => worths_any pA eA pc ec pn en ps k ag W (hB.P.below hb) hpn (by rw [← hpn]; exact hF.p)
  have hs7 : ∀ x, (sizeOf 64).run Tryz.prog x = .ok 7 x := fun x => by kernel_rfl
  have ha7 : ∀ x, (isAgg 64).run Tryz.prog x = .ok true x := fun x => by kernel_rfl
  by_cases hE0 : bothE ps es k ag = 0
  · have hR := (bothE_zero.1 hE0).1
    have hp1 := hR.n1
    have hp5 := hR.n5
    have hSv := Lib.hid fun W (hb : Below w.heap.size w W) wA wc (hWA : At 1 Zc W wA (worthL ps k ag)) => solved_any pA eA wA pn pc en ec wc es (worthL ps k ag) W (by rw [← hpn]; exact hR.right) (hB.E.below hb) hen hWA (by simp [worthL, hpn]) (by omega) (by omega) (hR.worths k ag)
    obtain ⟨ws, hws⟩ : ∃ ws, worthL ps k ag = ws := ⟨_, rfl⟩
    have hgot := Lib.hid (show ∀ n0 e w', LeGot ps es k ag n0 e w' = match solvedL pn (exs es) ws with
      | none => e = .returned (.tuple #[leNone, .int .i64 12])
      | some (m, d, p) => ∃ A c A2 c2, e = .returned (.tuple #[.agg #[.int .i64 (dotL ws m / lowG (dotL ws m) d), .int .i64 (d / lowG (dotL ws m) d), .int .i64 d, .slice A pn c, .int .i64 p.den, .int .i64 p.lev, .slice A2 en c2], .int .i64 0]) ∧
        w'.ownsRow n0 3 1 (.slice A pn c) pn (m.map (Value.int .i64)) ∧ w'.ownsRow n0 3 1 (.slice A2 en c2) en (p.W.map (Value.int .i64)) from fun n0 e w' => by
          unfold LeGot
          rw [if_neg (by simp [hE0]), hpn, hen, hws])
    have hof := Lib.hid (show ∀ m d p, solvedL pn (exs es) ws = some (m, d, p) → SvOf ps es ws m d p from fun m d p h => by rw [← hws] at h ⊢; rw [← hpn] at h; exact svOf hR h)
    have hwl := Lib.hid (show ws.length = pn ∧ Small 400 ws from ⟨by rw [← hws]; simp [worthL, hpn], by rw [← hws]; exact hR.worths k ag⟩)
    rw [hws] at hWo hSv
    rw [hE0] at hBo
    have hpn' := Lib.hid hpn
    obtain ⟨sv, hsv⟩ : ∃ sv, solvedL pn (exs es) ws = sv := ⟨_, rfl⟩
    rw [hsv] at hgot hSv hof
    have hn5 : pn ≤ 5 := by omega
    clear hB hF hpn hen hE0 hR hws hsv hp1 hp5
    go_enter Tryz.func23, Tryz.ntmps23
    go_wp2_with (go_at_call 54; refine (hBo.out _ (by go_grown)).mono ?_; rintro e w2 ⟨rfl, hb2⟩)
    have M0 := bk_keep hb2 (by (repeat (first | assumption | (refine bk_new _ _ ?_; (simp; done)) | refine bk_drew ?_ | refine bk_alloc ?_ _ | refine bk_set ?_ (by simp <;> omega) _)) : (((w.alloc (.cells #[.slice pA pn pc, .slice eA en ec] 25 (0, 0))).alloc (.cells #[.int .i64 k, .int .i64 ag] 27 (0, 0))).alloc (.cells #[.int .i64 0, .int .i64 0, .int .i64 0, .slice none 0 0, .int .i64 0, .int .i64 0, .slice none 0 0] 64 (0, 0))).heap[w.heap.size]? = some (.cells #[.slice pA pn pc, .slice eA en ec] 25 (0, 0)))
    have M1 := bk_keep hb2 (by (repeat (first | assumption | (refine bk_new _ _ ?_; (simp; done)) | refine bk_drew ?_ | refine bk_alloc ?_ _ | refine bk_set ?_ (by simp <;> omega) _)) : (((w.alloc (.cells #[.slice pA pn pc, .slice eA en ec] 25 (0, 0))).alloc (.cells #[.int .i64 k, .int .i64 ag] 27 (0, 0))).alloc (.cells #[.int .i64 0, .int .i64 0, .int .i64 0, .slice none 0 0, .int .i64 0, .int .i64 0, .slice none 0 0] 64 (0, 0))).heap[w.heap.size + 1]? = some (.cells #[.int .i64 k, .int .i64 ag] 27 (0, 0)))
    have M2 := bk_keep hb2 (by (repeat (first | assumption | (refine bk_new _ _ ?_; (simp; done)) | refine bk_drew ?_ | refine bk_alloc ?_ _ | refine bk_set ?_ (by simp <;> omega) _)) : (((w.alloc (.cells #[.slice pA pn pc, .slice eA en ec] 25 (0, 0))).alloc (.cells #[.int .i64 k, .int .i64 ag] 27 (0, 0))).alloc (.cells #[.int .i64 0, .int .i64 0, .int .i64 0, .slice none 0 0, .int .i64 0, .int .i64 0, .slice none 0 0] 64 (0, 0))).heap[w.heap.size + 1 + 1]? = some (.cells #[.int .i64 0, .int .i64 0, .int .i64 0, .slice none 0 0, .int .i64 0, .int .i64 0, .slice none 0 0] 64 (0, 0)))
    have hbw2 : Below w.heap.size w w2 := via (by go_grown) hb2
    have hsz2 : w.heap.size + 3 ≤ w2.heap.size := by have := bk_size M2; omega
    clear hb2
    rcases sv with _ | ⟨m, d, p⟩
    · refine wp_region_any (by kernel_rfl) ?_
      apply any_gen w (fun x => Below w2.heap.size w2 x) [3, 4, 9, 10] [11, 12] (fun j => if j = 11 then 9 else 10) (fun j => if j = 4 then [3] else if j = 11 then [4, 9] else if j = 12 then [4, 10] else [])
        (fun j g => if j = 3 then .slice g.a1 pn g.c1 else if j = 4 then .tuple #[.agg #[.int .i64 0, .slice none 0 0], .agg #[.int .i64 0, .int .i64 0, .slice none 0 0], .bool false] else .pointer (some ⟨g.b, 0, none⟩))
        (fun j f g x => if j = 3 then x.ownsRow w2.heap.size 3 1 (.slice (g 3).a1 pn (g 3).c1) pn (ws.map (Value.int .i64))
          else if j = 9 then x.heap[(g 9).b]? = some (.cells #[.int .i64 0, .slice none 0 0] 62 (0, 0))
          else if j = 10 then x.heap[(g 10).b]? = some (.cells #[.int .i64 0, .int .i64 0, .slice none 0 0] 35 (0, 0)) else True)
        (fun j h b => if j = 3 then ∃ a, h.a1 = some a ∧ b = a.block else if j = 4 then False else b = h.b)
      case hB => kernel_rfl
      case hB' => intro g; kernel_rfl
      case hS => kernel_rfl
      case hN => kernel_rfl
      case hnd => decide
      case htg => decide
      case hinj => decide
      case hD => kernel_rfl
      case hkd => kernel_rfl
      case hC0 => exact Below.refl _ _
      case hCs => exact fun x x' h hb => h.trans (hb.mono h.size)
      case hCw => exact fun x h => via hbw2 h
      case hCz => exact fun x h => h.size
      case hCo => exact fun x x' b h ho hb => h.trans (ho.below _ hb)
      case hq =>
        intro g u hu hgc hbx hbX
        have D0 := bk2 (bk_keep hu M0)
        have D1 := bk2 (bk_keep hu M1)
        simp only [List.cons_append, List.nil_append, mixL, yieldsC, List.contains_cons, List.contains_nil, Nat.reduceAdd, Nat.reduceBEq, Nat.zero_add, Bool.or_false, Bool.or_true, Bool.false_or, Bool.true_or, Bool.false_eq_true, if_true, if_false, Bool.or_self, Nat.reduceEqDiff]
        repeat (go_big_quiet_step (fail))
        exact wpQuiet_nil rfl
      case hRb =>
        intro j f g x x' h hb
        by_cases e3 : j = 3
        · rw [if_pos e3] at h ⊢; exact owns_below h hb
        rw [if_neg e3] at h ⊢
        by_cases e9 : j = 9
        · rw [if_pos e9] at h ⊢; exact bk_keep hb h
        rw [if_neg e9] at h ⊢
        by_cases e10 : j = 10
        · rw [if_pos e10] at h ⊢; exact bk_keep hb h
        rw [if_neg e10]; trivial
      case hRg =>
        intro i f g j h x hne hd hst hR
        by_cases e3 : i = 3
        · rw [if_pos e3] at hR ⊢; subst e3; rw [upd_ne (Ne.symm hne)]; exact hR
        rw [if_neg e3] at hR ⊢
        by_cases e9 : i = 9
        · rw [if_pos e9] at hR ⊢; subst e9; rw [upd_ne (Ne.symm hne)]; exact hR
        rw [if_neg e9] at hR ⊢
        by_cases e10 : i = 10
        · rw [if_pos e10] at hR ⊢; subst e10; rw [upd_ne (Ne.symm hne)]; exact hR
        rw [if_neg e10]; trivial
      case hRo =>
        intro i f g b x x' hC hR ho hb hn
        by_cases e3 : i = 3
        · rw [if_pos e3] at hR ⊢; rw [if_pos e3] at hn; subst e3; exact owns_kept hR fun r e => ho.other r (own_ne hn e)
        rw [if_neg e3] at hR ⊢; rw [if_neg e3] at hn
        by_cases e4 : i = 4
        · subst e4; rw [if_neg (by decide), if_neg (by decide)]; trivial
        rw [if_neg e4] at hn
        by_cases e9 : i = 9
        · rw [if_pos e9] at hR ⊢; subst e9; exact ho.keep (fun e => hn e.symm) hR
        rw [if_neg e9] at hR ⊢
        by_cases e10 : i = 10
        · rw [if_pos e10] at hR ⊢; subst e10; exact ho.keep (fun e => hn e.symm) hR
        rw [if_neg e10]; trivial
      case hmake =>
        intro j hj o ho g x hC hdep
        simp only [List.mem_cons, List.not_mem_nil, or_false] at hj
        rcases hj with rfl | rfl | rfl | rfl
        · simp only [List.getElem?_cons_succ, List.getElem?_cons_zero, Option.some.injEq] at ho
          subst ho
          refine does_enter (by kernel_rfl) ((hWo.out x (via hbw2 hC)).mono ?_)
          rintro e x' ⟨⟨A, c, rfl, hO⟩, hb⟩
          refine ⟨_, rfl, { Gh.zero with a1 := A, c1 := c }, rfl, ?_, hb, fun b hb' => own_lt hO hb'⟩
          rw [if_pos rfl, upd_self]
          exact owns_base hO hC.size
        · simp only [List.getElem?_cons_succ, List.getElem?_cons_zero, Option.some.injEq] at ho
          subst ho
          obtain ⟨f, h3, -⟩ := hdep 3 (by simp) (by simp)
          rw [if_pos rfl] at h3
          refine does_enter (by kernel_rfl) ((hSv.out x (via hbw2 hC) (g 3).a1 (g 3).c1 (own_ints h3)).mono ?_)
          rintro e x' ⟨hg, hb⟩
          unfold SvGot at hg
          subst hg
          refine ⟨_, rfl, Gh.zero, rfl, ?_, hb, fun b hb' => ?_⟩
          · rw [if_neg (by decide), if_neg (by decide), if_neg (by decide)]; trivial
          · rw [if_neg (by decide), if_pos rfl] at hb'; exact hb'.elim
        · simp only [List.getElem?_cons_succ, List.getElem?_cons_zero, Option.some.injEq] at ho
          subst ho
          refine does_value (v := .pointer (some ⟨x.heap.size, 0, none⟩)) (x := x.alloc (.cells #[.int .i64 0, .slice none 0 0] 62 (0, 0))) (by kernel_rfl) ⟨{ Gh.zero with b := x.heap.size }, rfl, ?_, new_below _ _, ?_⟩
          · rw [if_neg (by decide), if_pos rfl, upd_self]
            exact bk_new x _ rfl
          · intro b hb'
            rw [if_neg (by decide), if_neg (by decide)] at hb'
            subst hb'
            simp
        · simp only [List.getElem?_cons_succ, List.getElem?_cons_zero, Option.some.injEq] at ho
          subst ho
          refine does_value (v := .pointer (some ⟨x.heap.size, 0, none⟩)) (x := x.alloc (.cells #[.int .i64 0, .int .i64 0, .slice none 0 0] 35 (0, 0))) (by kernel_rfl) ⟨{ Gh.zero with b := x.heap.size }, rfl, ?_, new_below _ _, ?_⟩
          · rw [if_neg (by decide), if_neg (by decide), if_pos rfl, upd_self]
            exact bk_new x _ rfl
          · intro b hb'
            rw [if_neg (by decide), if_neg (by decide)] at hb'
            subst hb'
            simp
      case hstore =>
        intro k hk o ho g x hC hR hdep
        simp only [List.mem_cons, List.not_mem_nil, or_false] at hk
        rcases hk with rfl | rfl
        · simp only [List.getElem?_cons_succ, List.getElem?_cons_zero, Option.some.injEq] at ho
          subst ho
          have hz : x.heap[(g 9).b]? = some (.cells #[.int .i64 0, .slice none 0 0] 62 (0, 0)) := hR
          exact ⟨_, (g 9).b, run_store2 rfl rfl rfl (by kernel_rfl) (by kernel_rfl) (by kernel_rfl) hz, rfl, ((OnlyB.refl _ _).set _ _).set _ _, bk_here (bk_here hz _ rfl) _ rfl⟩
        · simp only [List.getElem?_cons_succ, List.getElem?_cons_zero, Option.some.injEq] at ho
          subst ho
          have hz : x.heap[(g 10).b]? = some (.cells #[.int .i64 0, .int .i64 0, .slice none 0 0] 35 (0, 0)) := hR
          exact ⟨_, (g 10).b, run_store3 rfl rfl rfl rfl (by kernel_rfl) (by kernel_rfl) (by kernel_rfl) hz, rfl, (((OnlyB.refl _ _).set _ _).set _ _).set _ _, bk_here (bk_here (bk_here hz _ rfl) _ rfl) _ rfl⟩
      case hind =>
        intro j hj
        simp only [List.cons_append, List.nil_append, List.mem_cons, List.not_mem_nil, or_false] at hj
        rcases hj with rfl | rfl | rfl | rfl | rfl | rfl <;> (intro g h; kernel_rfl)
      intro g x hx hall
      clear hall
      generalize (g 3).a1 = A3
      generalize (g 3).c1 = c3
      generalize (g 9).b = b9
      generalize (g 10).b = b10
      clear g
      have X2 := bk_keep hx M2
      have hbwx : Below w.heap.size w x := via hbw2 hx
      have hfin := Lib.hid (show ∀ e w', e = .returned (.tuple #[leNone, .int .i64 12]) → LeGot ps es k ag w.heap.size e w' from fun e w' h => by
          rw [hgot.out]
          exact h)
      clear hx M0 M1 M2 hSv hgot hof hwl hpn'
      go_wp2_with ((refine wpList_store_block (by with_reducible rfl) (.tmp 4) (.tmp 28) 64 (by with_reducible rfl) (w.heap.size + 1 + 1) [.int .i64 0, .int .i64 0, .int .i64 0, .slice none 0 0, .int .i64 0, .int .i64 0, .slice none 0 0] [.int .i64 0, .int .i64 0, .int .i64 0, .slice none 0 0, .int .i64 0, .int .i64 0, .slice none 0 0] 64 ?sp ?sq (hs7 _) ?sb rfl (by decide) ?_))
      case sp => rfl
      case sq => rfl
      case sb => exact X2
      intro w9 hblk9 hg9 hsz9
      have hb9 : Below w.heap.size w w9 := grown_below hbwx hg9 fun b e => by have := Option.some.inj e; omega
      go_wp2
      refine bodyPost_ret (v := .tuple #[leNone, .int .i64 12]) ?_ rfl ⟨hfin.out _ _ rfl, hb9⟩
      exact results_cell2t (p := 4) (u := 5) (ad := ⟨w.heap.size + 1 + 1, 0, none⟩) (v := leNone) rfl (by rfl) (run_loadBlock (T := 64) (cs := [.int .i64 0, .int .i64 0, .int .i64 0, .slice none 0 0, .int .i64 0, .int .i64 0, .slice none 0 0]) (ha7 _) (hs7 _) hblk9)
    · refine wp_region_any (by kernel_rfl) ?_
      apply any_gen w (fun x => Below w2.heap.size w2 x) [3, 4, 9, 10] [11, 12] (fun j => if j = 11 then 9 else 10) (fun j => if j = 4 then [3] else if j = 11 then [4, 9] else if j = 12 then [4, 10] else [])
        (fun j g => if j = 3 then .slice g.a1 pn g.c1 else if j = 4 then .tuple #[.agg #[.int .i64 d, .slice g.a1 pn g.c1], .agg #[.int .i64 p.den, .int .i64 p.lev, .slice g.a2 en g.c2], .bool true] else .pointer (some ⟨g.b, 0, none⟩))
        (fun j f g x => if j = 3 then x.ownsRow w2.heap.size 3 1 (.slice (g 3).a1 pn (g 3).c1) pn (ws.map (Value.int .i64))
          else if j = 4 then x.ownsRow w2.heap.size 3 1 (.slice (g 4).a1 pn (g 4).c1) pn (m.map (Value.int .i64)) ∧ x.ownsRow w2.heap.size 3 1 (.slice (g 4).a2 en (g 4).c2) en (p.W.map (Value.int .i64))
          else if j = 9 then x.heap[(g 9).b]? = some (if f then .cells #[.int .i64 d, .slice (g 4).a1 pn (g 4).c1] 62 (0, 0) else .cells #[.int .i64 0, .slice none 0 0] 62 (0, 0))
          else if j = 10 then x.heap[(g 10).b]? = some (if f then .cells #[.int .i64 p.den, .int .i64 p.lev, .slice (g 4).a2 en (g 4).c2] 35 (0, 0) else .cells #[.int .i64 0, .int .i64 0, .slice none 0 0] 35 (0, 0)) else True)
        (fun j h b => if j = 3 then ∃ a, h.a1 = some a ∧ b = a.block else if j = 4 then (∃ a, h.a1 = some a ∧ b = a.block) ∨ (∃ a, h.a2 = some a ∧ b = a.block) else b = h.b)
      case hB => kernel_rfl
      case hB' => intro g; kernel_rfl
      case hS => kernel_rfl
      case hN => kernel_rfl
      case hnd => decide
      case htg => decide
      case hinj => decide
      case hD => kernel_rfl
      case hkd => kernel_rfl
      case hC0 => exact Below.refl _ _
      case hCs => exact fun x x' h hb => h.trans (hb.mono h.size)
      case hCw => exact fun x h => via hbw2 h
      case hCz => exact fun x h => h.size
      case hCo => exact fun x x' b h ho hb => h.trans (ho.below _ hb)
      case hq =>
        intro g u hu hgc hbx hbX
        have D0 := bk2 (bk_keep hu M0)
        have D1 := bk2 (bk_keep hu M1)
        simp only [List.cons_append, List.nil_append, mixL, yieldsC, List.contains_cons, List.contains_nil, Nat.reduceAdd, Nat.reduceBEq, Nat.zero_add, Bool.or_false, Bool.or_true, Bool.false_or, Bool.true_or, Bool.false_eq_true, if_true, if_false, Bool.or_self, Nat.reduceEqDiff]
        repeat (go_big_quiet_step (fail))
        exact wpQuiet_nil rfl
      case hRb =>
        intro j f g x x' h hb
        by_cases e3 : j = 3
        · rw [if_pos e3] at h ⊢; exact owns_below h hb
        rw [if_neg e3] at h ⊢
        by_cases e4 : j = 4
        · rw [if_pos e4] at h ⊢; exact ⟨owns_below h.1 hb, owns_below h.2 hb⟩
        rw [if_neg e4] at h ⊢
        by_cases e9 : j = 9
        · rw [if_pos e9] at h ⊢; exact bk_keep hb h
        rw [if_neg e9] at h ⊢
        by_cases e10 : j = 10
        · rw [if_pos e10] at h ⊢; exact bk_keep hb h
        rw [if_neg e10]; trivial
      case hRg =>
        intro i f g j h x hne hd hst hR
        by_cases e3 : i = 3
        · rw [if_pos e3] at hR ⊢; subst e3; rw [upd_ne (Ne.symm hne)]; exact hR
        rw [if_neg e3] at hR ⊢
        by_cases e4 : i = 4
        · rw [if_pos e4] at hR ⊢; subst e4; rw [upd_ne (Ne.symm hne)]; exact hR
        rw [if_neg e4] at hR ⊢
        by_cases e9 : i = 9
        · rw [if_pos e9] at hR ⊢
          subst e9
          rw [upd_ne (Ne.symm hne)]
          cases f
          · exact hR
          · have := hst rfl 11 (by simp) (by simp)
            rw [upd_ne (show 4 ≠ j by simp at this; omega)]
            exact hR
        rw [if_neg e9] at hR ⊢
        by_cases e10 : i = 10
        · rw [if_pos e10] at hR ⊢
          subst e10
          rw [upd_ne (Ne.symm hne)]
          cases f
          · exact hR
          · have := hst rfl 12 (by simp) (by simp)
            rw [upd_ne (show 4 ≠ j by simp at this; omega)]
            exact hR
        rw [if_neg e10]; trivial
      case hRo =>
        intro i f g b x x' hC hR ho hb hn
        by_cases e3 : i = 3
        · rw [if_pos e3] at hR ⊢; rw [if_pos e3] at hn; subst e3; exact owns_kept hR fun r e => ho.other r (own_ne hn e)
        rw [if_neg e3] at hR ⊢; rw [if_neg e3] at hn
        by_cases e4 : i = 4
        · rw [if_pos e4] at hR ⊢; rw [if_pos e4] at hn; subst e4
          exact ⟨owns_kept hR.1 fun r e => ho.other r (own_ne (fun h => hn (.inl h)) e), owns_kept hR.2 fun r e => ho.other r (own_ne (fun h => hn (.inr h)) e)⟩
        rw [if_neg e4] at hR ⊢; rw [if_neg e4] at hn
        by_cases e9 : i = 9
        · rw [if_pos e9] at hR ⊢; subst e9; exact ho.keep (fun e => hn e.symm) hR
        rw [if_neg e9] at hR ⊢
        by_cases e10 : i = 10
        · rw [if_pos e10] at hR ⊢; subst e10; exact ho.keep (fun e => hn e.symm) hR
        rw [if_neg e10]; trivial
      case hmake =>
        intro j hj o ho g x hC hdep
        simp only [List.mem_cons, List.not_mem_nil, or_false] at hj
        rcases hj with rfl | rfl | rfl | rfl
        · simp only [List.getElem?_cons_succ, List.getElem?_cons_zero, Option.some.injEq] at ho
          subst ho
          refine does_enter (by kernel_rfl) ((hWo.out x (via hbw2 hC)).mono ?_)
          rintro e x' ⟨⟨A, c, rfl, hO⟩, hb⟩
          refine ⟨_, rfl, { Gh.zero with a1 := A, c1 := c }, rfl, ?_, hb, fun b hb' => own_lt hO hb'⟩
          rw [if_pos rfl, upd_self]
          exact owns_base hO hC.size
        · simp only [List.getElem?_cons_succ, List.getElem?_cons_zero, Option.some.injEq] at ho
          subst ho
          obtain ⟨f, h3, -⟩ := hdep 3 (by simp) (by simp)
          rw [if_pos rfl] at h3
          refine does_enter (by kernel_rfl) ((hSv.out x (via hbw2 hC) (g 3).a1 (g 3).c1 (own_ints h3)).mono ?_)
          rintro e x' ⟨hg, hb⟩
          unfold SvGot at hg
          obtain ⟨A, c, A2, c2, rfl, hO1, hO2⟩ := hg
          refine ⟨_, rfl, { Gh.zero with a1 := A, c1 := c, a2 := A2, c2 := c2 }, rfl, ?_, hb, fun b hb' => ?_⟩
          · rw [if_neg (by decide), if_pos rfl, upd_self]
            exact ⟨owns_base hO1 hC.size, owns_base hO2 hC.size⟩
          · rcases hb' with hb' | hb'
            · exact own_lt hO1 hb'
            · exact own_lt hO2 hb'
        · simp only [List.getElem?_cons_succ, List.getElem?_cons_zero, Option.some.injEq] at ho
          subst ho
          refine does_value (v := .pointer (some ⟨x.heap.size, 0, none⟩)) (x := x.alloc (.cells #[.int .i64 0, .slice none 0 0] 62 (0, 0))) (by kernel_rfl) ⟨{ Gh.zero with b := x.heap.size }, rfl, ?_, new_below _ _, ?_⟩
          · rw [if_neg (by decide), if_neg (by decide), if_pos rfl, upd_self]
            exact bk_new x _ rfl
          · intro b hb'
            rw [if_neg (by decide), if_neg (by decide)] at hb'
            subst hb'
            simp
        · simp only [List.getElem?_cons_succ, List.getElem?_cons_zero, Option.some.injEq] at ho
          subst ho
          refine does_value (v := .pointer (some ⟨x.heap.size, 0, none⟩)) (x := x.alloc (.cells #[.int .i64 0, .int .i64 0, .slice none 0 0] 35 (0, 0))) (by kernel_rfl) ⟨{ Gh.zero with b := x.heap.size }, rfl, ?_, new_below _ _, ?_⟩
          · rw [if_neg (by decide), if_neg (by decide), if_neg (by decide), if_pos rfl, upd_self]
            exact bk_new x _ rfl
          · intro b hb'
            rw [if_neg (by decide), if_neg (by decide)] at hb'
            subst hb'
            simp
      case hstore =>
        intro k hk o ho g x hC hR hdep
        simp only [List.mem_cons, List.not_mem_nil, or_false] at hk
        rcases hk with rfl | rfl
        · simp only [List.getElem?_cons_succ, List.getElem?_cons_zero, Option.some.injEq] at ho
          subst ho
          have hz : x.heap[(g 9).b]? = some (.cells #[.int .i64 0, .slice none 0 0] 62 (0, 0)) := hR
          exact ⟨_, (g 9).b, run_store2 rfl rfl rfl (by kernel_rfl) (by kernel_rfl) (by kernel_rfl) hz, rfl, ((OnlyB.refl _ _).set _ _).set _ _, bk_here (bk_here hz _ rfl) _ rfl⟩
        · simp only [List.getElem?_cons_succ, List.getElem?_cons_zero, Option.some.injEq] at ho
          subst ho
          have hz : x.heap[(g 10).b]? = some (.cells #[.int .i64 0, .int .i64 0, .slice none 0 0] 35 (0, 0)) := hR
          exact ⟨_, (g 10).b, run_store3 rfl rfl rfl rfl (by kernel_rfl) (by kernel_rfl) (by kernel_rfl) hz, rfl, (((OnlyB.refl _ _).set _ _).set _ _).set _ _, bk_here (bk_here (bk_here hz _ rfl) _ rfl) _ rfl⟩
      case hind =>
        intro j hj
        simp only [List.cons_append, List.nil_append, List.mem_cons, List.not_mem_nil, or_false] at hj
        rcases hj with rfl | rfl | rfl | rfl | rfl | rfl <;> (intro g h; kernel_rfl)
      intro g x hx hall
      have h4 : x.ownsRow w2.heap.size 3 1 (.slice (g 4).a1 pn (g 4).c1) pn (m.map (Value.int .i64)) ∧ x.ownsRow w2.heap.size 3 1 (.slice (g 4).a2 en (g 4).c2) en (p.W.map (Value.int .i64)) := (hall 4 (by simp)).1
      have h9 : x.heap[(g 9).b]? = some (.cells #[.int .i64 d, .slice (g 4).a1 pn (g 4).c1] 62 (0, 0)) := (hall 9 (by simp)).1
      have h10 : x.heap[(g 10).b]? = some (.cells #[.int .i64 p.den, .int .i64 p.lev, .slice (g 4).a2 en (g 4).c2] 35 (0, 0)) := (hall 10 (by simp)).1
      have z9 : w2.heap.size ≤ (g 9).b ∧ (g 9).b < x.heap.size := (hall 9 (by simp)).2.1 _ rfl
      have z10 : w2.heap.size ≤ (g 10).b ∧ (g 10).b < x.heap.size := (hall 10 (by simp)).2.1 _ rfl
      clear hall
      generalize (g 4).a1 = A1 at h4 h9 ⊢
      generalize (g 4).c1 = c1 at h4 h9 ⊢
      generalize (g 4).a2 = A2 at h4 h10 ⊢
      generalize (g 4).c2 = c2 at h4 h10 ⊢
      generalize (g 9).b = b9 at h9 z9 ⊢
      generalize (g 10).b = b10 at h10 z10 ⊢
      generalize (g 3).a1 = A3
      generalize (g 3).c1 = c3
      clear g
      have X0 := bk_keep hx M0
      have X1 := bk_keep hx M1
      have X2 := bk_keep hx M2
      have hbwx : Below w.heap.size w x := via hbw2 hx
      obtain ⟨hO1, hO2⟩ := h4
      have hm1 := own_ints hO1
      have hO1 := Lib.hid hO1
      have hO2 := Lib.hid hO2
      clear hx M0 M1 M2 hSv
      have hS := hof.out _ _ _ rfl
      have hN0 := hS.dot hwl.out.2
      have hlo := Lib.hid fun W => lowest_any (dotL ws m) d W hS.d0 hN0 (by have := hS.dK; omega)
      have hml : m.length = pn := by rw [hS.len, hpn'.out]
      have hdo := Lib.hid (show ∀ W A c, Below x.heap.size x W → At 1 Zc W A ws → Calls Tryz.prog 58 #[.slice A pn c, .slice A1 pn c1] W fun e w' => e = .returned (.int .i64 (dotL ws m)) ∧ W = w' from fun W A c hb hA => by
        have h := dot_any A A1 ws m c c1 W hA (hm1.below hb) (by rw [hwl.out.1, hml]) (by rw [hwl.out.1]; omega) 400 1228800000000000 (by decide) hwl.out.2 hS.small
        rwa [hwl.out.1, hml] at h)
      have hfin := Lib.hid (show ∀ e w', (∃ A c A2 c2, e = .returned (.tuple #[.agg #[.int .i64 (dotL ws m / lowG (dotL ws m) d), .int .i64 (d / lowG (dotL ws m) d), .int .i64 d, .slice A pn c, .int .i64 p.den, .int .i64 p.lev, .slice A2 en c2], .int .i64 0]) ∧
        w'.ownsRow w.heap.size 3 1 (.slice A pn c) pn (m.map (Value.int .i64)) ∧ w'.ownsRow w.heap.size 3 1 (.slice A2 en c2) en (p.W.map (Value.int .i64))) → LeGot ps es k ag w.heap.size e w' from fun e w' h => by
          rw [hgot.out]
          exact h)
      clear hof hgot hS hN0 hml hwl hm1 hpn'
      obtain ⟨S, hS⟩ : ∃ S, dotL ws m = S := ⟨_, rfl⟩
      rw [hS] at hlo hdo hfin
      obtain ⟨N1, hN1⟩ : ∃ n, S / lowG S d = n := ⟨_, rfl⟩
      obtain ⟨D1, hD1⟩ : ∃ n, d / lowG S d = n := ⟨_, rfl⟩
      rw [hN1, hD1] at hlo hfin
      clear hS hN1 hD1
      go_wp2
      refine wp_region_any (by kernel_rfl) ?_
      refine any_last 13 _ rfl rfl (by kernel_rfl) (by kernel_rfl) (by kernel_rfl) (by kernel_rfl) ?_
      refine any_last 12 _ rfl rfl (by kernel_rfl) (by kernel_rfl) (by kernel_rfl) (by kernel_rfl) ?_
      simp only [List.take_succ_cons, List.take_zero]
      apply any_gen w (fun y => Below x.heap.size x y) [2, 5] [] (fun j => j) (fun j => if j = 5 then [2] else [])
        (fun j g => if j = 2 then .slice g.a1 pn g.c1 else .int .i64 S)
        (fun j f g y => if j = 2 then y.ownsRow x.heap.size 3 1 (.slice (g 2).a1 pn (g 2).c1) pn (ws.map (Value.int .i64)) else True)
        (fun j h b => if j = 2 then ∃ a, h.a1 = some a ∧ b = a.block else False)
      case hB => kernel_rfl
      case hB' => intro g; kernel_rfl
      case hS => kernel_rfl
      case hN => kernel_rfl
      case hnd => decide
      case htg => decide
      case hinj => decide
      case hD => kernel_rfl
      case hkd => kernel_rfl
      case hC0 => exact Below.refl _ _
      case hCs => exact fun y y' h hb => h.trans (hb.mono h.size)
      case hCw => exact fun y h => via hbwx h
      case hCz => exact fun y h => h.size
      case hCo => exact fun y y' b h ho hb => h.trans (ho.below _ hb)
      case hq =>
        intro g u hu hgc hbx hbX
        have D0 := bk2 (bk_keep hu X0)
        have D1 := bk2 (bk_keep hu X1)
        have D9 := bk2 (bk_keep hu h9)
        have D10 := bk3 (bk_keep hu h10)
        simp only [List.cons_append, List.nil_append, mixL, yieldsC, List.contains_cons, List.contains_nil, Nat.reduceAdd, Nat.reduceBEq, Nat.zero_add, Bool.or_false, Bool.or_true, Bool.false_or, Bool.true_or, Bool.false_eq_true, if_true, if_false, Bool.or_self, Nat.reduceEqDiff]
        repeat (go_big_quiet_step ((go_at_call 60; with_reducible exact Grew.call (hlo.out _))))
        exact wpQuiet_nil rfl
      case hRb =>
        intro j f g y y' h hb
        by_cases e2 : j = 2
        · rw [if_pos e2] at h ⊢; exact owns_below h hb
        rw [if_neg e2]; trivial
      case hRg =>
        intro i f g j h y hne hd hst hR
        by_cases e2 : i = 2
        · rw [if_pos e2] at hR ⊢; subst e2; rw [upd_ne (Ne.symm hne)]; exact hR
        rw [if_neg e2]; trivial
      case hRo =>
        intro i f g b y y' hC hR ho hb hn
        by_cases e2 : i = 2
        · rw [if_pos e2] at hR ⊢; rw [if_pos e2] at hn; subst e2; exact owns_kept hR fun r e => ho.other r (own_ne hn e)
        rw [if_neg e2]; trivial
      case hmake =>
        intro j hj o ho g y hC hdep
        simp only [List.mem_cons, List.not_mem_nil, or_false] at hj
        rcases hj with rfl | rfl
        · simp only [List.getElem?_cons_succ, List.getElem?_cons_zero, Option.some.injEq] at ho
          subst ho
          refine does_enter (by kernel_rfl) ((hWo.out y (via hbwx hC)).mono ?_)
          rintro e y' ⟨⟨A, c, rfl, hO⟩, hb⟩
          refine ⟨_, rfl, { Gh.zero with a1 := A, c1 := c }, rfl, ?_, hb, fun b hb' => own_lt hO hb'⟩
          rw [if_pos rfl, upd_self]
          exact owns_base hO hC.size
        · simp only [List.getElem?_cons_succ, List.getElem?_cons_zero, Option.some.injEq] at ho
          subst ho
          obtain ⟨f, h3, -⟩ := hdep 2 (by simp) (by simp)
          rw [if_pos rfl] at h3
          refine does_enter (by kernel_rfl) ((hdo.out y (g 2).a1 (g 2).c1 hC (own_ints h3)).mono ?_)
          rintro e y' ⟨rfl, rfl⟩
          refine ⟨_, rfl, Gh.zero, rfl, ?_, Below.refl _ _, fun b hb' => ?_⟩
          · rw [if_neg (by decide)]; trivial
          · rw [if_neg (by decide)] at hb'; exact hb'.elim
      case hstore =>
        intro k hk
        cases hk
      case hind =>
        intro j hj
        simp only [List.cons_append, List.nil_append, List.append_nil, List.mem_cons, List.not_mem_nil, or_false] at hj
        rcases hj with rfl | rfl <;> (intro g h; kernel_rfl)
      intro g y hy hall
      clear hall
      have Y2 := bk_keep hy X2
      have hO1' := owns_kept hO1.out fun r e => hy.block r (hO1.out.lt _ e).2
      have hO2' := owns_kept hO2.out fun r e => hy.block r (hO2.out.lt _ e).2
      have l1 := fun r e => hO1'.lt r e
      have l2 := fun r e => hO2'.lt r e
      have hby : Below w.heap.size w y := via hbwx hy
      refine oper_store_block (.tmp 4) (.tmp 40) 64 (by with_reducible rfl) (w.heap.size + 1 + 1) [.int .i64 N1, .int .i64 D1, .int .i64 d, .slice A1 pn c1, .int .i64 p.den, .int .i64 p.lev, .slice A2 en c2] [.int .i64 0, .int .i64 0, .int .i64 0, .slice none 0 0, .int .i64 0, .int .i64 0, .slice none 0 0] 64 rfl rfl (hs7 _) Y2 rfl (by simp [Value.oneCell']) ?_
      intro w9 hblk9 hg9 hsz9
      have hb9 : Below w.heap.size w w9 := grown_below hby hg9 fun b e => by have := Option.some.inj e; omega
      have hO1' := owns_kept hO1' fun r e => hg9.5 r (l1 r e).2 (by have := (l1 r e).1; simp; omega)
      have hO2' := owns_kept hO2' fun r e => hg9.5 r (l2 r e).2 (by have := (l2 r e).1; simp; omega)
      have hO1' := Lib.hid hO1'
      have hO2' := Lib.hid hO2'
      clear l1 l2 hg9
      refine oper_value (.int .i64 0) (by kernel_rfl) ?_
      go_wp2
      refine bodyPost_ret (v := .tuple #[.agg #[.int .i64 N1, .int .i64 D1, .int .i64 d, .slice A1 pn c1, .int .i64 p.den, .int .i64 p.lev, .slice A2 en c2], .int .i64 0]) ?_ rfl ⟨hfin.out _ _ ⟨A1, c1, A2, c2, rfl, owns_base hO1'.out (by omega), owns_base hO2'.out (by omega)⟩, hb9⟩
      exact results_cell2t (p := 4) (u := 5) (ad := ⟨w.heap.size + 1 + 1, 0, none⟩) (v := .agg #[.int .i64 N1, .int .i64 D1, .int .i64 d, .slice A1 pn c1, .int .i64 p.den, .int .i64 p.lev, .slice A2 en c2]) rfl (by rfl) (run_loadBlock (T := 64) (cs := [.int .i64 N1, .int .i64 D1, .int .i64 d, .slice A1 pn c1, .int .i64 p.den, .int .i64 p.lev, .slice A2 en c2]) (ha7 _) (hs7 _) hblk9)
  · obtain ⟨E, hE⟩ : ∃ E, bothE ps es k ag = E := ⟨_, rfl⟩
    have hres := Lib.hid (show ∀ n0 e w', (e = .returned (.tuple #[leNone, .int .i64 E])) → LeGot ps es k ag n0 e w' from fun n0 e w' h => by
      unfold LeGot
      rw [if_pos hE0, hE]
      exact h)
    rw [hE] at hBo hE0
    have hEb : (E != 0) = true := by simpa using hE0
    clear hB hF hpn hen hWo hE
    go_enter Tryz.func23, Tryz.ntmps23
    go_wp2_with (first
      | (go_at_call 54; refine (hBo.out _ (by go_grown)).mono ?_; rintro e w2 ⟨rfl, hb2⟩; have M2 := bk_keep hb2 (by (repeat (first | assumption | (refine bk_new _ _ ?_; (simp; done)) | refine bk_drew ?_ | refine bk_alloc ?_ _ | refine bk_set ?_ (by simp <;> omega) _)) : (((w.alloc (.cells #[.slice pA pn pc, .slice eA en ec] 25 (0, 0))).alloc (.cells #[.int .i64 k, .int .i64 ag] 27 (0, 0))).alloc (.cells #[.int .i64 0, .int .i64 0, .int .i64 0, .slice none 0 0, .int .i64 0, .int .i64 0, .slice none 0 0] 64 (0, 0))).heap[w.heap.size + 1 + 1]? = some (.cells #[.int .i64 0, .int .i64 0, .int .i64 0, .slice none 0 0, .int .i64 0, .int .i64 0, .slice none 0 0] 64 (0, 0))); have hbw2 : Below w.heap.size w w2 := via (by go_grown) hb2)
      | (refine wpList_store_block (by with_reducible rfl) (.tmp 4) (.tmp 15) 64 (by with_reducible rfl) (w.heap.size + 1 + 1) [.int .i64 0, .int .i64 0, .int .i64 0, .slice none 0 0, .int .i64 0, .int .i64 0, .slice none 0 0] [.int .i64 0, .int .i64 0, .int .i64 0, .slice none 0 0, .int .i64 0, .int .i64 0, .slice none 0 0] 64 ?sp ?sq (hs7 _) ?sb rfl (by decide) ?_))
    case sp => rfl
    case sq => rfl
    case sb => exact M2
    intro w9 hblk9 hg9 hsz9
    have hb9 : Below w.heap.size w w9 := grown_below hbw2 hg9 fun b e => by have := Option.some.inj e; omega
    go_wp2
    refine bodyPost_ret (v := .tuple #[leNone, .int .i64 (E)]) ?_ rfl ⟨hres.out _ _ _ rfl, hb9⟩
    exact results_cell2t (p := 4) (u := 5) (ad := ⟨w.heap.size + 1 + 1, 0, none⟩) (v := leNone) rfl (by rfl) (run_loadBlock (T := 64) (cs := [.int .i64 0, .int .i64 0, .int .i64 0, .slice none 0 0, .int .i64 0, .int .i64 0, .slice none 0 0]) (ha7 _) (hs7 _) hblk9)
end Go.Proofs

set_option linter.unusedSimpArgs false
set_option linter.unusedVariables false
namespace Go.Proofs
open Go.RowKit
set_option linter.unusedVariables false
/-! weightsErr: the weights of a proof. -/
def badW (x : Int) : Bool := !within x 0 1000000000000
def weightE (en : Nat) (den lev : Int) (W : List Int) : Int := firstE [unl ((W.length : Int) == (en : Int)) 10, unl (within den 1 1000000000000 && smallB lev 1000000000000 && !(W.any badW)) 2]
set_option maxRecDepth 100000 in
theorem badW_any (x : Int) (w : World) : Calls Tryz.prog 78 (#[.int .i64 x] ++ #[]) w fun e w' => e = .returned (.bool (badW x)) ∧ Below w.heap.size w w' := by
  unfold badW
  simp only [Array.append_empty]
  go_enter Tryz.func78, Tryz.ntmps78
  go_wp2_with (go_at_call 33; refine (within_any _ _ _ _).mono ?_; rintro e w' ⟨rfl, rfl⟩)
  go_ret
  exact ⟨rfl, Below.refl _ _⟩
set_option maxRecDepth 100000 in
set_option maxHeartbeats 4000000 in
theorem weightsErr_any (pA eA A : Option Addr) (pc ec pn en c : Nat) (den lev : Int) (W : List Int) (w : World) (hW : At 1 Zc w A W) (hl : W.length ≤ 1000000) (he : en ≤ 1000) :
    Calls Tryz.prog 51 #[.agg #[.slice pA pn pc, .slice eA en ec], .agg #[.int .i64 den, .int .i64 lev, .slice A W.length c]] w fun e w' => e = .returned (.int .i64 (weightE en den lev W)) ∧ Below w.heap.size w w' := by
  have hC := Lib.hid fun x (hb : Below w.heap.size w x) => containsFunc_weight A W c badW x hl (hW.below hb) fun y _ W _ => badW_any y W
  have h1 := Lib.hid fun x => within_any den 1 1000000000000 x
  have h2 := Lib.hid fun x => csmall_any lev 1000000000000 x (by decide)
  unfold weightE
  obtain ⟨b1, e1⟩ : ∃ b, within den 1 1000000000000 = b := ⟨_, rfl⟩
  obtain ⟨b2, e2⟩ : ∃ b, smallB lev 1000000000000 = b := ⟨_, rfl⟩
  obtain ⟨b3, e3⟩ : ∃ b, W.any badW = b := ⟨_, rfl⟩
  obtain ⟨wn, e4⟩ : ∃ n, W.length = n := ⟨_, rfl⟩
  obtain ⟨b5, e5⟩ : ∃ b, ((W.length : Int) == (en : Int)) = b := ⟨_, rfl⟩
  rw [e5]
  rw [e1] at h1 ⊢
  rw [e2] at h2 ⊢
  rw [e3] at hC ⊢
  rw [e4] at hC hl e5 ⊢
  have e6 : decide (wn = en) = b5 := by rw [← e5]; rw [Bool.eq_iff_iff]; simp; omega
  clear e1 e2 e3 e4 hW
  go_enter Tryz.func51, Tryz.ntmps51
  go_wp2_with (go_at_call 77; refine (hC.out _ (by go_grown)).mono ?_; rintro e w2 ⟨rfl, hb2⟩; (have M0 := bk_keep hb2 (by (repeat (first | assumption | (refine bk_new _ _ ?_; (simp; done)) | refine bk_drew ?_ | refine bk_alloc ?_ _ | refine bk_set ?_ (by simp <;> omega) _)) : ((w.alloc (.cells #[.slice pA pn pc, .slice eA en ec] 25 (0, 0))).alloc (.cells #[.int .i64 den, .int .i64 lev, .slice A wn c] 35 (0, 0))).heap[w.heap.size]? = some (.cells #[.slice pA pn pc, .slice eA en ec] 25 (0, 0)))); (have M1 := bk_keep hb2 (by (repeat (first | assumption | (refine bk_new _ _ ?_; (simp; done)) | refine bk_drew ?_ | refine bk_alloc ?_ _ | refine bk_set ?_ (by simp <;> omega) _)) : ((w.alloc (.cells #[.slice pA pn pc, .slice eA en ec] 25 (0, 0))).alloc (.cells #[.int .i64 den, .int .i64 lev, .slice A wn c] 35 (0, 0))).heap[w.heap.size + 1]? = some (.cells #[.int .i64 den, .int .i64 lev, .slice A wn c] 35 (0, 0)))); (have D0 := bk2 M0); (have D1 := bk3 M1); (have hbw : Below w.heap.size w w2 := via (by go_grown) hb2); clear hb2)
  cases b1
  all_goals
    cases b2
    all_goals
      refine region_in w 21 (by kernel_rfl) (by kernel_rfl) hbw ?_
      intro hgc hbx
      simp only [List.take_succ_cons, List.take_zero, List.drop_succ_cons, List.drop_zero]
      repeat (go_big_quiet_step (first
        | (go_at_call 33; with_reducible exact Grew.call_same (h1.out _))
        | (go_at_call 34; with_reducible exact Grew.call_same (h2.out _))
        | (go_at_call 36; with_reducible exact Grew.call_same (unless_any _ _ _))))
      refine wpQuiet_nil ?_
      intro wb hb_wb hw_wb hs_wb
      clear hgc hbx
      go_wp2_with (go_at_call 35; refine (first2 _ _ _).mono ?_; rintro e w' ⟨rfl, rfl⟩)
      go_ret
      exact ⟨ret_int (by simp), by go_grown⟩
end Go.Proofs
