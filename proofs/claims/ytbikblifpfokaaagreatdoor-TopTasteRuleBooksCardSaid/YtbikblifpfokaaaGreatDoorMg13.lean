import Derived.Test.YtbikblifpfokaaaGreatDoorMg12
import Derived.Test.YtbikblifpfokaaaGreatDoorMg10
import Derived.Laws.StructEq
import Derived.OwnWalkIn
import Derived.Test.YtbikblifpfokaaaGreatDoorMg8
set_option linter.unusedSimpArgs false
set_option linter.unusedVariables false
namespace Go.Proofs
open Go.RowKit

/-! The steps of two books (Distinguish$1) and of one book twice (sets$1$1). -/
def BKo (mA : Option Addr) (m mc : Nat) (bg : Int) (cA : Option Addr) (n cc : Nat) : Obj := .cells #[.slice mA m mc, .int .i64 bg, .slice cA n cc] 62 (0, 0)
set_option maxRecDepth 100000 in
set_option maxHeartbeats 2000000 in
theorem both_any (mA cA mA2 cA2 : Option Addr) (mk mk2 : List ByteArray) (cl cl2 : List Cl) (mc cc mc2 cc2 : Nat) (bg bg2 : Int) (B B2 s1 s2 a : Nat) (w : World) (hR : RightB mk bg cl) (hat : BkAt w mA mk cA cl) (hR2 : RightB mk2 bg2 cl2) (hat2 : BkAt w mA2 mk2 cA2 cl2)
    (hB : w.heap[B]? = some (BKo mA mk.length mc bg cA cl.length cc)) (hB2 : w.heap[B2]? = some (BKo mA2 mk2.length mc2 bg2 cA2 cl2.length cc2)) (h1 : s1 < cl.length) (h2 : s2 < cl2.length) (ha : a < mk.length) (ha2 : a < mk2.length) :
    Calls Tryz.prog 34 #[.agg #[.int .i64 s1, .int .i64 s2], .int .i64 a, .pointer (some ⟨B, 0, none⟩), .pointer (some ⟨B2, 0, none⟩)] w fun e w' => e = .returned (.agg #[.int .i64 (nxC cl s1 a), .int .i64 (nxC cl2 s2 a)]) ∧ Below w.heap.size w w' := by
  have hN := Lib.hid fun W (hb : Below w.heap.size w W) => next_any mA cA mk cl mc cc bg s1 a W hR (hat.below hb) h1 ha
  have hN2 := Lib.hid fun W (hb : Below w.heap.size w W) => next_any mA2 cA2 mk2 cl2 mc2 cc2 bg2 s2 a W hR2 (hat2.below hb) h2 ha2
  unfold BKo at hB hB2
  have hB' := Lib.hid hB
  have hB2' := Lib.hid hB2
  generalize nxC cl s1 a = r1 at *
  generalize nxC cl2 s2 a = r2 at *
  generalize mk.length = M at *
  generalize mk2.length = M2 at *
  generalize cl.length = N at *
  generalize cl2.length = N2 at *
  clear hR hR2 hat hat2 hB hB2
  go_enter Tryz.func34, Tryz.ntmps34
  go_wp2_with fail
  refine wp_world ?_
  intro W hW_W
  have hb_W : Below w.heap.size w W := by rw [hW_W]; go_grown
  have P0 : W.heap[w.heap.size]? = some (.cells #[.int .i64 s1, .int .i64 s2] 77 (0, 0)) := by rw [hW_W]; (repeat (first | assumption | (refine bk_new _ _ ?_; (simp; done)) | refine bk_drew ?_ | refine bk_alloc ?_ _ | refine bk_set ?_ (by simp <;> omega) _))
  have P1 : W.heap[w.heap.size + 1]? = some (.cells #[.int .i64 0, .int .i64 0] 77 (0, 0)) := by rw [hW_W]; (repeat (first | assumption | (refine bk_new _ _ ?_; (simp; done)) | refine bk_drew ?_ | refine bk_alloc ?_ _ | refine bk_set ?_ (by simp <;> omega) _))
  have K1 := bk_keep hb_W hB'.out
  have C1 := bk3 K1
  have hK1 := bk_size K1
  have K2 := bk_keep hb_W hB2'.out
  have C2 := bk3 K2
  have hK2 := bk_size K2
  have Q0 := bk2 P0
  have Q1 := bk2 P1
  have hP0 := bk_size P0
  clear hW_W
  refine region_in w 11 (by kernel_rfl) (by kernel_rfl) (by go_grown) ?_
  intro hgc hbx
  simp only [List.take_succ_cons, List.take_zero, List.drop_succ_cons, List.drop_zero]
  repeat (go_big_quiet_step (first | (go_at_call 28; first | with_reducible exact Grew.call (hN.out _ (hbx.out _)) | with_reducible exact Grew.call (hN2.out _ (hbx.out _)))))
  refine wpQuiet_nil ?_
  intro wb hb_wb hw_wb hs_wb
  clear hgc hbx
  have D1 : wb.heap[w.heap.size + 1]? = some (.cells #[.int .i64 0, .int .i64 0] 77 (0, 0)) := bk_keep hb_wb P1
  have E1 := bk2 D1
  go_wp2
  refine bodyPost_ret (v := .agg #[.int .i64 r1, .int .i64 r2]) ?_ rfl ⟨rfl, ?_⟩
  · simp [results, Tryz.results34, go_sem, E1]
  · go_grown
set_option maxRecDepth 100000 in
set_option maxHeartbeats 2000000 in
theorem twice_any (mA cA : Option Addr) (mk : List ByteArray) (cl : List Cl) (mc cc : Nat) (bg : Int) (B s1 s2 a : Nat) (w : World) (hR : RightB mk bg cl) (hat : BkAt w mA mk cA cl)
    (hB : w.heap[B]? = some (BKo mA mk.length mc bg cA cl.length cc)) (h1 : s1 < cl.length) (h2 : s2 < cl.length) (ha : a < mk.length) :
    Calls Tryz.prog 55 #[.agg #[.int .i64 s1, .int .i64 s2], .int .i64 a, .pointer (some ⟨B, 0, none⟩)] w fun e w' => e = .returned (.agg #[.int .i64 (nxC cl s1 a), .int .i64 (nxC cl s2 a)]) ∧ Below w.heap.size w w' := by
  have hN := Lib.hid fun W (hb : Below w.heap.size w W) => next_any mA cA mk cl mc cc bg s1 a W hR (hat.below hb) h1 ha
  have hN2 := Lib.hid fun W (hb : Below w.heap.size w W) => next_any mA cA mk cl mc cc bg s2 a W hR (hat.below hb) h2 ha
  unfold BKo at hB
  have hB' := Lib.hid hB
  generalize nxC cl s1 a = r1 at *
  generalize nxC cl s2 a = r2 at *
  generalize mk.length = M at *
  generalize cl.length = N at *
  clear hR hat hB
  go_enter Tryz.func55, Tryz.ntmps55
  go_wp2_with fail
  refine wp_world ?_
  intro W hW_W
  have hb_W : Below w.heap.size w W := by rw [hW_W]; go_grown
  have P0 : W.heap[w.heap.size]? = some (.cells #[.int .i64 s1, .int .i64 s2] 77 (0, 0)) := by rw [hW_W]; (repeat (first | assumption | (refine bk_new _ _ ?_; (simp; done)) | refine bk_drew ?_ | refine bk_alloc ?_ _ | refine bk_set ?_ (by simp <;> omega) _))
  have P1 : W.heap[w.heap.size + 1]? = some (.cells #[.int .i64 0, .int .i64 0] 77 (0, 0)) := by rw [hW_W]; (repeat (first | assumption | (refine bk_new _ _ ?_; (simp; done)) | refine bk_drew ?_ | refine bk_alloc ?_ _ | refine bk_set ?_ (by simp <;> omega) _))
  have K1 := bk_keep hb_W hB'.out
  have C1 := bk3 K1
  have hK1 := bk_size K1
  have Q0 := bk2 P0
  have Q1 := bk2 P1
  have hP0 := bk_size P0
  clear hW_W
  refine region_in w 11 (by kernel_rfl) (by kernel_rfl) (by go_grown) ?_
  intro hgc hbx
  simp only [List.take_succ_cons, List.take_zero, List.drop_succ_cons, List.drop_zero]
  repeat (go_big_quiet_step (first | (go_at_call 28; first | with_reducible exact Grew.call (hN.out _ (hbx.out _)) | with_reducible exact Grew.call (hN2.out _ (hbx.out _)))))
  refine wpQuiet_nil ?_
  intro wb hb_wb hw_wb hs_wb
  clear hgc hbx
  have D1 : wb.heap[w.heap.size + 1]? = some (.cells #[.int .i64 0, .int .i64 0] 77 (0, 0)) := bk_keep hb_wb P1
  have E1 := bk2 D1
  go_wp2
  refine bodyPost_ret (v := .agg #[.int .i64 r1, .int .i64 r2]) ?_ rfl ⟨rfl, ?_⟩
  · simp [results, Tryz.results55, go_sem, E1]
  · go_grown
end Go.Proofs

set_option linter.unusedSimpArgs false
set_option linter.unusedVariables false
set_option linter.unusedSectionVars false
namespace Go.Proofs
open Go.RowKit

/-! Maps, as lists of pairs. -/
section
variable {K V : Type} [DecidableEq K]
def setM : List (K × V) → K → V → List (K × V)
  | [], k, v => [(k, v)]
  | p :: D, k, v => if k = p.1 then (k, v) :: D else p :: setM D k v
def lkM : List (K × V) → K → Option V
  | [], _ => none
  | p :: D, k => if k = p.1 then some p.2 else lkM D k
theorem lkM_setM (D : List (K × V)) (k : K) (v : V) (k' : K) : lkM (setM D k v) k' = if k' = k then some v else lkM D k' := by
  induction D with
  | nil => simp [setM, lkM]
  | cons p D ih =>
    unfold setM
    by_cases h : k = p.1
    · rw [if_pos h]
      unfold lkM
      subst h
      split <;> rfl
    · rw [if_neg h]
      unfold lkM
      rw [ih]
      by_cases h2 : k' = p.1
      · rw [if_pos h2, if_pos h2]
        split
        · rename_i h3
          exact (h (h3 ▸ h2)).elim
        · rfl
      · rw [if_neg h2, if_neg h2]
/-- The first entry of a key, with its number. -/
def fndM (vl : V → Value) : List (K × V) → K → Nat → Option (Nat × Value)
  | [], _, _ => none
  | p :: D, k, i => if k = p.1 then some (i, vl p.2) else fndM vl D k (i + 1)
theorem fndM_none {vl : V → Value} : ∀ (D : List (K × V)) (k : K) (i : Nat), fndM vl D k i = none → lkM D k = none ∧ ∀ v, setM D k v = D ++ [(k, v)]
  | [], k, i, h => ⟨rfl, fun _ => rfl⟩
  | p :: D, k, i, h => by
    unfold fndM at h
    split at h
    · cases h
    · rename_i hn
      obtain ⟨h1, h2⟩ := fndM_none D k (i + 1) h
      exact ⟨by unfold lkM; rw [if_neg hn]; exact h1, fun v => by unfold setM; rw [if_neg hn, h2]; rfl⟩
theorem fndM_some {vl : V → Value} : ∀ (D : List (K × V)) (k : K) (i j : Nat) (u : Value), fndM vl D k i = some (j, u) → ∃ n v0, j = i + n ∧ D[n]? = some (k, v0) ∧ u = vl v0 ∧ lkM D k = some v0 ∧ ∀ v, setM D k v = D.set n (k, v)
  | [], k, i, j, u, h => by cases h
  | p :: D, k, i, j, u, h => by
    unfold fndM at h
    split at h
    · rename_i hn
      simp only [Option.some.injEq, Prod.mk.injEq] at h
      refine ⟨0, p.2, by omega, by simp [hn], h.2.symm, by unfold lkM; rw [if_pos hn], fun v => by unfold setM; rw [if_pos hn]; rfl⟩
    · rename_i hn
      obtain ⟨n, v0, h1, h2, h3, h4, h5⟩ := fndM_some D k (i + 1) j u h
      exact ⟨n + 1, v0, by omega, h2, h3, by unfold lkM; rw [if_neg hn]; exact h4, fun v => by unfold setM; rw [if_neg hn, h5]; rfl⟩
/-- Keys that are found by what they are. -/
structure KeyOk (P : Program) (kt : TypeId) (enc : K → Value) : Prop where
  chk : ∀ b k w, (Instr.checkKey b 10000 kt (enc k)).run P w = .ok () w
  fnd : ∀ {V : Type} (vl : V → Value) (D : List (K × V)) (es : List MapEntry) (k : K) w, es.map (fun e => (e.key, e.val)) = D.map (fun p => (enc p.1, vl p.2)) → (Instr.findKey kt (enc k) es).run P w = .ok (fndM vl D k 0) w
  same : ∀ k, Instr.sameBits 10000 (enc k) (enc k) = true
def MapAt (enc : K → Value) (vl : V → Value) (w : World) (b : Nat) (D : List (K × V)) : Prop :=
  ∃ es clock, w.heap[b]? = some (.map es clock) ∧ es.toList.map (fun e => (e.key, e.val)) = D.map fun p => (enc p.1, vl p.2)
theorem MapAt.lt {enc : K → Value} {vl : V → Value} {w : World} {b : Nat} {D : List (K × V)} (h : MapAt enc vl w b D) : b < w.heap.size := by
  obtain ⟨es, c, h, -⟩ := h
  exact (Array.getElem?_eq_some_iff.1 h).1
theorem MapAt.kept {enc : K → Value} {vl : V → Value} {w w' : World} {b : Nat} {D : List (K × V)} (h : MapAt enc vl w b D) (he : w'.heap[b]? = w.heap[b]?) : MapAt enc vl w' b D := by
  obtain ⟨es, c, h1, h2⟩ := h
  exact ⟨es, c, he.trans h1, h2⟩
theorem MapAt.below {enc : K → Value} {vl : V → Value} {w w' : World} {b : Nat} {D : List (K × V)} (h : MapAt enc vl w b D) (hb : Below w.heap.size w w') : MapAt enc vl w' b D := h.kept (hb.block b h.lt)
theorem run_getObj {P : Program} {w : World} {b : Nat} {es : Array MapEntry} {c : Nat} (h : w.heap[b]? = some (.map es c)) : (getObj b).run P w = .ok (.map es c) w := by
  unfold getObj Sem.run
  rw [h]
  rfl
theorem run_setObj {P : Program} {w : World} {b : Nat} {es : Array MapEntry} {c : Nat} (o' : Obj) (h : w.heap[b]? = some (.map es c)) : (setObj b o').run P w = .ok () (w.putObj b o') := by
  unfold setObj Sem.run
  rw [h]
  rfl
theorem fnd_now {P : Program} {enc : K → Value} {vl : V → Value} {td : TypeDesc} (hs : ∀ a b : K, Instr.sameNow td (enc a) (enc b) = some (decide (a = b))) : ∀ (D : List (K × V)) (es : List MapEntry) (k : K) (i : Nat), es.map (fun e => (e.key, e.val)) = D.map (fun p => (enc p.1, vl p.2)) → Instr.findNow td (enc k) es i = some (fndM vl D k i)
  | [], [], k, i, h => rfl
  | [], e :: es, k, i, h => by simp at h
  | p :: D, [], k, i, h => by simp at h
  | p :: D, e :: es, k, i, h => by
    simp only [List.map_cons, List.cons.injEq, Prod.mk.injEq] at h
    obtain ⟨⟨h1, h2⟩, h3⟩ := h
    unfold Instr.findNow fndM
    rw [h1, hs, h2]
    by_cases hk : k = p.1
    · simp [hk]
    · simp [hk, fnd_now (P := P) hs D es k (i + 1) h3]
theorem fnd_ask {P : Program} {enc : K → Value} {vl : V → Value} {kt : TypeId} {w : World} (hs : ∀ a b : K, (Op.equal kt (enc a) (enc b)).run P w = .ok (decide (a = b)) w) : ∀ (D : List (K × V)) (es : List MapEntry) (k : K) (i : Nat), es.map (fun e => (e.key, e.val)) = D.map (fun p => (enc p.1, vl p.2)) → (Instr.findAsking kt (enc k) es i).run P w = .ok (fndM vl D k i) w
  | [], [], k, i, h => rfl
  | [], e :: es, k, i, h => by simp at h
  | p :: D, [], k, i, h => by simp at h
  | p :: D, e :: es, k, i, h => by
    simp only [List.map_cons, List.cons.injEq, Prod.mk.injEq] at h
    obtain ⟨⟨h1, h2⟩, h3⟩ := h
    unfold Instr.findAsking fndM
    rw [h1]
    simp only [Sem.run_bind, hs, Result.andThen_ok]
    by_cases hk : k = p.1
    · simp [hk, h2]
    · simp [hk, fnd_ask hs D es k (i + 1) h3]
variable {P : Program} {kt et t : TypeId} {enc : K → Value} {vl : V → Value} {w : World} {b : Nat} {D : List (K × V)}
theorem MapAt.look (hK : KeyOk P kt enc) (ht : P.underlying t = some (.map kt et)) {z : Value} (hz : (zeroValue et).run P w = .ok z w) (h : MapAt enc vl w b D) (k : K) (c : Bool) :
    (Instr.lookup t (.map (some b)) (enc k) c).run P w = .ok (match lkM D k with | some v => if c then .tuple #[vl v, .bool true] else vl v | none => if c then .tuple #[z, .bool false] else z) w := by
  obtain ⟨es, clock, h1, h2⟩ := h
  unfold Instr.lookup
  simp only [Sem.run_bind, run_underlying ht, Result.andThen_ok, run_getObj h1, Sem.run_pure, hK.chk, hK.fnd vl D es.toList k w h2]
  cases hf : fndM vl D k 0 with
  | none =>
    rw [(fndM_none D k 0 hf).1]
    simp only [Sem.run_bind, hz, Result.andThen_ok, Sem.run_pure]
  | some r =>
    obtain ⟨j, u⟩ := r
    obtain ⟨n, v0, e1, e2, e3, e4, -⟩ := fndM_some D k 0 j u hf
    rw [e4, e3]
    rfl
theorem MapAt.update (hK : KeyOk P kt enc) (ht : P.underlying t = some (.map kt et)) (h : MapAt enc vl w b D) (k : K) (v : V) :
    ∃ o, (Instr.mapUpdate t (.map (some b)) (enc k) (vl v)).run P w = .ok () (w.putObj b o) ∧ MapAt enc vl (w.putObj b o) b (setM D k v) := by
  have hlt := h.lt
  obtain ⟨es, clock, h1, h2⟩ := h
  unfold Instr.mapUpdate
  simp only [Sem.run_bind, run_underlying ht, Result.andThen_ok, run_getObj h1, hK.chk, hK.fnd vl D es.toList k w h2]
  cases hf : fndM vl D k 0 with
  | none =>
    have hs := (fndM_none D k 0 hf).2 v
    refine ⟨_, run_setObj _ h1, _, _, World.putObj_heap_same hlt, ?_⟩
    rw [hs]
    simp [h2]
  | some r =>
    obtain ⟨j, u⟩ := r
    obtain ⟨n, v0, e1, e2, e3, e4, e5⟩ := fndM_some D k 0 j u hf
    have ej : j = n := by omega
    subst ej
    have hen : es.toList[j]?.map (fun e => (e.key, e.val)) = some (enc k, vl v0) := by
      rw [← List.getElem?_map, h2, List.getElem?_map, e2]
      rfl
    have hkey : ((es[j]?).map (·.key)).getD (enc k) = enc k := by
      rw [← Array.getElem?_toList]
      cases hq : es.toList[j]? with
      | none => rfl
      | some e =>
        rw [hq] at hen
        simp only [Option.map_some, Option.some.injEq, Prod.mk.injEq] at hen
        simpa using hen.1
    have hks : (Instr.keyThatStays (((es[j]?).map (·.key)).getD (enc k)) (enc k)).run P w = .ok (enc k) w := by
      unfold Instr.keyThatStays
      rw [hkey, hK.same]
      rfl
    simp only [Sem.run_bind, hks, Result.andThen_ok]
    refine ⟨_, run_setObj _ h1, _, _, World.putObj_heap_same hlt, ?_⟩
    rw [e5 v]
    have hlj : j < es.toList.length := by
      cases hq : es.toList[j]? with
      | none => rw [hq] at hen; cases hen
      | some e => exact (List.getElem?_eq_some_iff.1 hq).1
    rw [Array.toList_modify]
    apply List.ext_getElem?
    intro i
    have hi := congrArg (fun l => l[i]?) h2
    simp only [List.getElem?_map] at hi ⊢
    rw [List.getElem?_modify, List.getElem?_set]
    by_cases hij : j = i
    · subst hij
      have hlD : j < D.length := (List.getElem?_eq_some_iff.1 e2).1
      rw [if_pos rfl, if_pos hlD]
      cases hq : es.toList[j]? with
      | none => rw [hq] at hen; cases hen
      | some e => simp
    · rw [if_neg hij]
      simpa [hij] using hi
end
def encI (k : Nat) : Value := .int .i64 k
def encP (k : Nat × Nat) : Value := .agg #[.int .i64 k.1, .int .i64 k.2]
theorem eq77 (a b : Nat × Nat) (W : World) : (Op.equal 77 (encP a) (encP b)).run Tryz.prog W = .ok (decide (a = b)) W := by
  have hi : Tryz.prog.info? 3 ≠ none := by
    intro h
    have : (Tryz.prog.info? 3).isSome = true := by kernel_rfl
    rw [h] at this
    cases this
  obtain ⟨i, hi⟩ := Option.ne_none_iff_exists'.1 hi
  have hc : Tryz.prog.cellsOf 3 = 1 := by kernel_rfl
  obtain ⟨a1, a2⟩ := a
  obtain ⟨b1, b2⟩ := b
  have hp0 : ∀ (x y : Nat) W, (Go.part 3 #[.int .i64 x, .int .i64 y] 0).run Tryz.prog W = .ok (.int .i64 x) W := fun _ _ _ => by kernel_rfl
  have hp1 : ∀ (x y : Nat) W, (Go.part 3 #[.int .i64 x, .int .i64 y] 1).run Tryz.prog W = .ok (.int .i64 y) W := fun _ _ _ => by kernel_rfl
  have he : ∀ (x y : Nat) W, (Op.equalIn 9999 3 (.int .i64 x) (.int .i64 y)).run Tryz.prog W = .ok (decide (x = y)) W := fun x y W => by
    rw [show (9999 : Nat) = 9998 + 1 from rfl, run_equalIn_int W 9998 3 .i64 .i64 x y Tryz.underlying3]
    simp
    by_cases h : x = y
    · simp [h]
    · simp [h]
      omega
  unfold Op.equal encP
  rw [show Op.maxDepth = 9999 + 1 from rfl, run_equalIn_array _ _ _ _ Tryz.underlying77 hi, hc]
  simp only [List.range, List.range.loop, Op.eqItems, Sem.run_bind, Nat.zero_mul, Nat.one_mul, hp0, hp1, he, Result.andThen_ok]
  by_cases h1 : a1 = b1
  · by_cases h2 : a2 = b2
    · simp [hp0, hp1, he, h1, h2]
    · simp [hp0, hp1, he, h1, h2]
  · simp [hp0, hp1, he, h1]
theorem key3 : KeyOk Tryz.prog 3 encI where
  chk := fun b k w => by
    unfold encI
    rw [show (10000 : Nat) = 9999 + 1 from rfl]
    unfold Instr.checkKey
    simp [Sem.run_bind, run_underlying Tryz.underlying3]
  fnd := fun vl D es k w h => by
    unfold Instr.findKey
    simp only [Sem.run_bind, run_underlying Tryz.underlying3, Result.andThen_ok]
    rw [fnd_now (P := Tryz.prog) (fun a b => by
      simp [encI, Instr.sameNow]
      by_cases h : a = b
      · simp [h]
      · simp [h]
        omega) D es k 0 h]
    rfl
  same := fun k => by
    unfold encI
    rw [show (10000 : Nat) = 9999 + 1 from rfl]
    simp [Instr.sameBits]
theorem key77 : KeyOk Tryz.prog 77 encP where
  chk := fun b k w => by
    unfold encP
    kernel_rfl
  fnd := fun vl D es k w h => by
    unfold Instr.findKey
    simp only [Sem.run_bind, run_underlying Tryz.underlying77, Result.andThen_ok]
    cases es with
    | nil =>
      cases D with
      | nil => rfl
      | cons p D => simp at h
    | cons e es =>
      cases D with
      | nil => simp at h
      | cons p D =>
        have : Instr.findNow (.array 2 3) (encP k) (e :: es) 0 = none := by
          unfold Instr.findNow
          unfold Instr.sameNow encP
          rfl
        simp only [this]
        exact fnd_ask (fun a b => eq77 a b w) (p :: D) (e :: es) k 0 h
  same := fun k => by
    unfold encP
    rw [show (10000 : Nat) = 9998 + 1 + 1 from rfl]
    simp [Instr.sameBits]
end Go.Proofs

set_option linter.unusedSimpArgs false
set_option linter.unusedVariables false
namespace Go.Proofs
open Go.RowKit

/-! Ranges over a function, whose rounds may keep blocks of their own, and read what they are given. -/
/-- All blocks but those of 'M' lie as they lay. -/
structure Lie (M : Nat → Prop) (W W' : World) : Prop where
  size : W.heap.size ≤ W'.heap.size
  same : ∀ k, k < W.heap.size → ¬ M k → W'.heap[k]? = W.heap[k]?
theorem Lie.refl (M : Nat → Prop) (W : World) : Lie M W W := ⟨Nat.le_refl _, fun _ _ _ => rfl⟩
theorem Lie.trans {M : Nat → Prop} {A B C : World} (h : Lie M A B) (k : Lie M B C) : Lie M A C := ⟨Nat.le_trans h.size k.size, fun i hi hm => (k.same i (Nat.lt_of_lt_of_le hi h.size) hm).trans (h.same i hi hm)⟩
theorem Lie.mono {M M' : Nat → Prop} {A B : World} (h : Lie M A B) (hm : ∀ k, k < A.heap.size → M k → M' k) : Lie M' A B := ⟨h.size, fun k hk hn => h.same k hk fun e => hn (hm k hk e)⟩
theorem Lie.of_below {W W' : World} (M : Nat → Prop) (h : Below W.heap.size W W') : Lie M W W' := ⟨h.size, fun k hk _ => h.block k hk⟩
theorem Lie.of_grown {W W' : World} {row : Option Nat} {M : Nat → Prop} (h : W.grownBy W' row) (hr : ∀ r, row = some r → M r) : Lie M W W' := ⟨h.size, fun k hk hn => h.block k hk fun e => hn (hr k e.symm)⟩
theorem Lie.putObj {M : Nat → Prop} (W : World) (l : Nat) (o : Obj) (h : M l) : Lie M W (W.putObj l o) := .of_grown (grownBy_putObj' W l o) fun r e => by cases e; exact h
theorem Lie.setCell {M : Nat → Prop} (W : World) {p : Addr} (u : Value) (h : M p.block) : Lie M W (W.setCell p u) := ⟨by simp, fun k hk hn => Below.heap_setCell W p u k fun e => hn (e ▸ h)⟩
theorem Lie.cell {M : Nat → Prop} {W W' : World} (h : Lie M W W') {k o : Nat} {v : Value} (hk : ¬ M k) (hc : W.cell? ⟨k, o, none⟩ = some v) : W'.cell? ⟨k, o, none⟩ = some v := by
  rw [← hc]
  exact World.cell?_of_block (a := ⟨k, o, none⟩) (h.same k (World.block_lt_of_cell? _ _ hc) hk)
theorem Lie.obj {M : Nat → Prop} {W W' : World} (h : Lie M W W') {k : Nat} {o : Obj} (hk : ¬ M k) (hc : W.heap[k]? = some o) : W'.heap[k]? = some o := (h.same k (Array.getElem?_eq_some_iff.1 hc).1 hk).trans hc

/-- What is said abides whatever happens to blocks from 'B' on, but those of 'T' and those that were given away. -/
def AbideT {α : Type} (gv : α → Nat → Prop) (B : Nat) (J : List α → (Nat → Prop) → World → Prop) : Prop :=
  ∀ s T W W' row, J s T W → W.grownBy W' row → (∀ r, row = some r → B ≤ r ∧ ¬ T r ∧ ∀ x ∈ s, ¬ gv x r) → J s T W'
/-- AN ITERATOR's CONTRACT. -/
def StopsW {α : Type} (F : Fence) (n : Nat) (P : Program) (g : Nat) (lb : Array Value) (encs : α → Array Value) (gv : α → Nat → Prop) (M : Nat → Prop) (Ok : List α → α → World → Prop) (S Sp : List α → Prop) (N : Nat) (w : World) : Prop :=
  ∀ (l : Nat) (J Jx : List α → (Nat → Prop) → World → Prop) (W : World), Below w.heap.size w W → w.heap.size ≤ l → l < W.heap.size → AbideT gv W.heap.size J → AbideT gv W.heap.size Jx →
    (∀ pre T x W1, J pre T W1 → (∀ r, T r → W.heap.size ≤ r ∧ r < W1.heap.size) → (∀ y ∈ pre ++ [x], ∀ r, gv y r → W.heap.size ≤ r) → pre.length < N → Ok pre x W1 → YieldAt F (n - 1) P l (encs x) W1 fun e W' =>
      ∃ T', (∀ r, T' r → T r ∨ W1.heap.size ≤ r) ∧ (∀ r, T' r → r < W'.heap.size) ∧ Lie (fun k => M k ∨ T k ∨ k = l) W1 W' ∧
        ((e = .returned (.bool true) ∧ J (pre ++ [x]) T' W') ∨ (e = .returned (.bool false) ∧ Jx (pre ++ [x]) T' W'))) →
    J [] (fun _ => False) W →
    CallsIn F n P g (#[.func (.yield l) #[] #[]] ++ lb) W fun e W' => (∃ v, e = .returned v) ∧ ((∃ xs T, S xs ∧ J xs T W') ∨ (∃ pre T, Sp pre ∧ Jx pre T W'))

/-- How the body of a round may be left. -/
def outW {α : Type} (M T : Nat → Prop) (I : List α → (Nat → Prop) → World → Prop) (Ix : Code → List α → (Nat → Prop) → World → Prop) (xs : List α) (W : World) : Exit → Act → World → Prop
  | .normal, _, W' => ∃ T', (∀ r, T' r → T r ∨ W.heap.size ≤ r) ∧ (∀ r, T' r → r < W'.heap.size) ∧ Lie (fun k => M k ∨ T k) W W' ∧ I xs T' W'
  | .ret, _, W' => ∃ T', (∀ r, T' r → T r ∨ W.heap.size ≤ r) ∧ (∀ r, T' r → r < W'.heap.size) ∧ Lie (fun k => M k ∨ T k) W W' ∧ Ix .ret xs T' W'
  | .exit id, _, W' => ∃ T', (∀ r, T' r → T r ∨ W.heap.size ≤ r) ∧ (∀ r, T' r → r < W'.heap.size) ∧ Lie (fun k => M k ∨ T k) W W' ∧ Ix (.exit id) xs T' W'
  | .goto t, _, W' => ∃ T', (∀ r, T' r → T r ∨ W.heap.size ≤ r) ∧ (∀ r, T' r → r < W'.heap.size) ∧ Lie (fun k => M k ∨ T k) W W' ∧ Ix (.goto t) xs T' W'
  | .panic _, _, _ => False
  | .outgrown, _, _ => False

variable {F : Fence} {n : Nat} {P : Program}
theorem wp_rangeW {α : Type} {g : Operand} {ps : Array Tmp} {assign body : Code} {Q : Exit → Act → World → Prop} {a : Act} {w : World}
    (hro : F.round = none) (h1 : 1 ≤ n) {gf : Nat} {lb : Array Value} (hg : a.eval g = .func (.func gf) #[] lb) (hFg : F.fn gf) (eg : ∀ args w, (callFunc gf args).run P w = .ok (.enter gf args) w)
    {encs : α → Array Value} {gv : α → Nat → Prop} {M : Nat → Prop} {Ok : List α → α → World → Prop} {S Sp : List α → Prop} {N : Nat} (hseq : StopsW F (n - 1) P gf lb encs gv M Ok S Sp N w) (hM : ∀ k, M k → k < w.heap.size)
    (hps : ∀ x, (encs x).size = ps.size)
    (I : List α → (Nat → Prop) → World → Prop) (Ix : Code → List α → (Nat → Prop) → World → Prop) (Ax : List α → (Nat → Prop) → α → Act → World → Prop)
    (hI : AbideT gv w.heap.size I) (hIx : ∀ c, AbideT gv w.heap.size (Ix c))
    (hAx : ∀ pre T x a (W : World) (l : Nat) (o o' : Obj), w.heap.size ≤ l → ¬ T l → (∀ y ∈ pre ++ [x], ¬ gv y l) → W.heap[l]? = some o → o.isCells = false → Ax pre T x a W → Ax pre T x a (W.putObj l o')) (h0 : I [] (fun _ => False) w)
    (hassign : ∀ (l : Nat) (pre : List α) (T : Nat → Prop) (x : α) (W : World), I pre T W → (∀ r, T r → w.heap.size ≤ r ∧ r < W.heap.size) → pre.length < N → Ok pre x W → (∀ y ∈ pre ++ [x], ∀ r, gv y r → w.heap.size ≤ r) →
      assign.wpIn (F.inRound l) (n - 1 - 1) P (Exit.then (fun a₁ W₁ => Lie (fun k => M k ∨ T k) W W₁ ∧ Ax pre T x a₁ W₁) (fun _ _ _ => False)) { tmps := (ps.zip (encs x)).foldl (fun t (p, v) => t.setIfInBounds p v) a.tmps, defers := [] } W)
    (hbody : ∀ (l : Nat) (pre : List α) (T : Nat → Prop) (x : α) (a₁ : Act) (W : World), Ax pre T x a₁ W → (∀ r, T r → w.heap.size ≤ r ∧ r < W.heap.size) → pre.length < N → body.wpIn (F.inRound l) (n - 1 - 1) P (outW M T I Ix (pre ++ [x]) W) a₁ W)
    (hdone : ∀ (D : Nat) (xs : List α) (T : Nat → Prop) (W : World), S xs → I xs T W → D = w.heap.size → W.heap[D]? = some (.deferred (some [])) → Q .normal { a with defers := { target := .collected D, args := #[] } :: a.defers } W)
    (hstop : ∀ (D : Nat) (c : Code) (pre : List α) (T : Nat → Prop) (W : World), Sp pre → Ix c pre T W → D = w.heap.size → W.heap[D]? = some (.deferred (some [])) → c.wpIn F n P Q { a with defers := { target := .collected D, args := #[] } :: a.defers } W) :
    (Code.rangeFunc g ps assign body).wpIn F n P Q a w := by
  refine wpIn_rangeFunc ?_
  intro fn hfn
  rw [hro]
  obtain ⟨rec, hrec⟩ : ∃ rec : LoopState → Option Code → Loop, rec = fun st pe => { state := st, pending := pe, fn, tmps := a.tmps, params := ps, assign, body, defers := w.heap.size } := ⟨_, rfl⟩
  obtain ⟨W1, hW1⟩ : ∃ W1, (w.alloc (.deferred (some []))).alloc (.loop (rec .ready none)) = W1 := ⟨_, rfl⟩
  have hsz1 : W1.heap.size = w.heap.size + 2 := by rw [← hW1]; simp
  have hL1 : W1.heap[w.heap.size + 1]? = some (.loop (rec .ready none)) := by
    rw [← hW1]; have := World.alloc_heap_new (w.alloc (.deferred (some []))) (.loop (rec .ready none)); rwa [World.size_alloc] at this
  have hK1 : W1.heap[w.heap.size]? = some (.deferred (some [])) := by
    rw [← hW1]; exact (Below.heap_alloc _ _ _ (by simp)).trans (World.alloc_heap_new w _)
  have hI1 : I [] (fun _ => False) W1 := by
    rw [← hW1]
    refine hI _ _ _ _ none (hI _ _ _ _ none h0 (World.grownBy_alloc w _ none) (fun r e => by cases e)) (World.grownBy_alloc _ _ none) (fun r e => by cases e)
  have hb1 : Below w.heap.size w W1 := by
    rw [← hW1]; exact ((Below.refl _ w).alloc (Nat.le_refl _) _).alloc (by simp) _
  refine ⟨w.heap.size + 1, [{ target := .collected w.heap.size, args := #[] }], W1, { target := .fn (.func gf) lb, args := #[.func (.yield (w.heap.size + 1)) #[] #[]] }, W1, gf,
    #[.func (.yield (w.heap.size + 1)) #[] #[]] ++ lb, W1, ?_, ?_, ?_, ?_, fun _ => h1, ?_⟩
  · rw [← hW1, hrec]; exact run_enterLoop_outer _ _ _ _ _
  · simp only [resolve, hg]
    simp [go_sem]
  · intro f' hf'; simp [Target.leads] at hf'; subst hf'; exact hFg
  · simp [invoke, go_sem, eg]
  · have keep : ∀ {A B : World} {row : Option Nat} {k : Nat} {o : Obj}, A.grownBy B row → (∀ r, row = some r → W1.heap.size ≤ r) → k < w.heap.size + 2 → A.heap[k]? = some o → B.heap[k]? = some o := fun hg' hr hk ho => by
      rw [hg'.block _ (Array.getElem?_eq_some_iff.1 ho).1 (fun e => by have := hr _ e.symm; omega), ho]
    have putI : ∀ {K : List α → (Nat → Prop) → World → Prop}, AbideT gv w.heap.size K → ∀ {s T W} (o : Obj), K s T W → (∀ r, T r → w.heap.size + 2 ≤ r) → (∀ y ∈ s, ∀ r, gv y r → w.heap.size + 2 ≤ r) → K s T (W.putObj (w.heap.size + 1) o) := fun hK s T W o hs ht hv =>
      hK _ _ _ _ _ hs (grownBy_putObj' W _ o) fun r e => by
        cases e
        exact ⟨by omega, fun h => by have := ht _ h; omega, fun y hy h => by have := hv y hy _ h; omega⟩
    refine (hseq (w.heap.size + 1)
      (fun pre T W => I pre T W ∧ W.heap[w.heap.size + 1]? = some (.loop (rec .ready none)) ∧ W.heap[w.heap.size]? = some (.deferred (some [])) ∧ (∀ r, T r → w.heap.size + 2 ≤ r) ∧ (∀ y ∈ pre, ∀ r, gv y r → w.heap.size + 2 ≤ r))
      (fun pre T W => ∃ c, Ix c pre T W ∧ W.heap[w.heap.size + 1]? = some (.loop (rec .done (some c))) ∧ W.heap[w.heap.size]? = some (.deferred (some [])) ∧ (∀ r, T r → w.heap.size + 2 ≤ r) ∧ (∀ y ∈ pre, ∀ r, gv y r → w.heap.size + 2 ≤ r))
      W1 hb1 (by omega) (by omega)
      (fun s T A B row hs hg' hr => ⟨hI s T A B row hs.1 hg' (fun r e => by have := hr r e; exact ⟨by omega, this.2⟩), keep hg' (fun r e => (hr r e).1) (by omega) hs.2.1, keep hg' (fun r e => (hr r e).1) (by omega) hs.2.2.1, hs.2.2.2⟩)
      (fun s T A B row hs hg' hr => by
        obtain ⟨c, hc, hl, hk, hts⟩ := hs
        exact ⟨c, hIx c s T A B row hc hg' (fun r e => by have := hr r e; exact ⟨by omega, this.2⟩), keep hg' (fun r e => (hr r e).1) (by omega) hl, keep hg' (fun r e => (hr r e).1) (by omega) hk, hts⟩)
      ?_ ⟨hI1, hL1, hK1, fun r h => h.elim, fun y hy => by cases hy⟩).mono ?_
    · rintro pre T x W ⟨hi, hl, hk, hTs, hvs⟩ hT hgv hlen hokx
      have hy := run_yield (P := P) (args := encs x) hl (by rw [hrec]; exact hps x)
      rw [hrec] at hy
      have hT2 : ∀ r, T r → w.heap.size ≤ r ∧ r < W.heap.size := fun r h => ⟨by have := hTs r h; omega, (hT r h).2⟩
      have hgv2 : ∀ y ∈ pre ++ [x], ∀ r, gv y r → w.heap.size + 2 ≤ r := fun y hy r h => by have := hgv y hy r h; omega
      have hlM : ¬ (M (w.heap.size + 1) ∨ T (w.heap.size + 1)) := by
        rintro (h | h)
        · have := hM _ h; omega
        · have := hTs _ h; omega
      have hDM : ¬ (M w.heap.size ∨ T w.heap.size) := by
        rintro (h | h)
        · have := hM _ h; omega
        · have := hTs _ h; omega
      refine ⟨fn, _, assign, body, hy, roundIn_of_wpIn hfn (wpIn_mono (hassign _ pre T x W hi hT2 hlen hokx (fun y hy r h => by have := hgv2 y hy r h; omega)) ?_)⟩
      rintro e a2 W2 hp
      cases e with
      | normal =>
        obtain ⟨ko, hx⟩ := hp
        have hl2 := ko.obj hlM hl
        have hk2 := ko.obj hDM hk
        have hlt : w.heap.size + 1 < W2.heap.size := (Array.getElem?_eq_some_iff.1 hl2).1
        have hl3 : (W2.putObj (w.heap.size + 1) (.loop { rec .ready none with state := .busy })).heap[w.heap.size + 1]? = some (.loop { rec .ready none with state := .busy }) := World.putObj_heap_same hlt
        have hk3 : (W2.putObj (w.heap.size + 1) (.loop { rec .ready none with state := .busy })).heap[w.heap.size]? = some (.deferred (some [])) := (World.putObj_heap_other (by omega)).trans hk2
        refine ⟨_, run_beginRound hl2 (by rw [hrec]), ?_⟩
        refine wpIn_mono (hbody _ pre T x a2 _ (hAx pre T x a2 _ _ _ _ (by omega) (fun h => hlM (.inr h)) (fun y hy h => by have := hgv2 y hy _ h; omega) hl2 rfl hx) (fun r h => ⟨(hT2 r h).1, by rw [World.putObj_size]; exact Nat.lt_of_lt_of_le (hT2 r h).2 ko.size⟩) hlen) ?_
        have st : Lie (fun k => M k ∨ T k ∨ k = w.heap.size + 1) W (W2.putObj (w.heap.size + 1) (.loop { rec .ready none with state := .busy })) :=
          (ko.mono (fun k _ h => by rcases h with h | h; exact .inl h; exact .inr (.inl h))).trans (Lie.putObj _ _ _ (.inr (.inr rfl)))
        have fin : ∀ (jump : Option Code) (W3 : World), Lie (fun k => M k ∨ T k) (W2.putObj (w.heap.size + 1) (.loop { rec .ready none with state := .busy })) W3 →
            (Instr.endRound (w.heap.size + 1) jump).run P W3 = .ok (.bool jump.isNone) (W3.putObj (w.heap.size + 1) (.loop (rec (if jump.isNone then .ready else .done) jump))) ∧
            (W3.putObj (w.heap.size + 1) (.loop (rec (if jump.isNone then .ready else .done) jump))).heap[w.heap.size + 1]? = some (.loop (rec (if jump.isNone then .ready else .done) jump)) ∧
            (W3.putObj (w.heap.size + 1) (.loop (rec (if jump.isNone then .ready else .done) jump))).heap[w.heap.size]? = some (.deferred (some [])) ∧
            Lie (fun k => M k ∨ T k ∨ k = w.heap.size + 1) W (W3.putObj (w.heap.size + 1) (.loop (rec (if jump.isNone then .ready else .done) jump))) := fun jump W3 hk4 => by
          have hl4 := hk4.obj hlM hl3
          have := run_endRound (P := P) jump hl4
          rw [hrec] at this ⊢
          refine ⟨this, World.putObj_heap_same (Array.getElem?_eq_some_iff.1 hl4).1, (World.putObj_heap_other (by omega)).trans (hk4.obj hDM hk3), ?_⟩
          rw [hrec] at st
          rw [hrec] at hk4
          exact (st.trans (hk4.mono (fun k _ h => by rcases h with h | h; exact .inl h; exact .inr (.inl h)))).trans (Lie.putObj _ _ _ (.inr (.inr rfl)))
        have hsW : W.heap.size ≤ (W2.putObj (w.heap.size + 1) (.loop { rec .ready none with state := .busy })).heap.size := by rw [World.putObj_size]; exact ko.size
        have hTr : ∀ T' : Nat → Prop, (∀ r, T' r → T r ∨ (W2.putObj (w.heap.size + 1) (.loop { rec .ready none with state := .busy })).heap.size ≤ r) → ∀ r, T' r → w.heap.size + 2 ≤ r := fun T' h r hr => by
          rcases h r hr with h | h
          · exact hTs r h
          · have := ko.size
            rw [World.putObj_size] at h
            have : W1.heap.size ≤ W.heap.size ∨ True := .inr trivial
            have := (Array.getElem?_eq_some_iff.1 hl2).1
            omega
        rintro e a3 W3 hp
        cases e with
        | normal =>
          obtain ⟨T', t1, t2, hk4, hi3⟩ := hp
          obtain ⟨hr, hl4, hk5, hli⟩ := fin none W3 hk4
          have ht := hTr T' t1
          exact ⟨_, _, hr, T', fun r h => (t1 r h).imp id (Nat.le_trans hsW), fun r h => by rw [World.putObj_size]; exact t2 r h, hli, .inl ⟨rfl, putI hI _ hi3 ht hgv2, hl4, hk5, ht, hgv2⟩⟩
        | ret =>
          obtain ⟨T', t1, t2, hk4, hi3⟩ := hp
          obtain ⟨hr, hl4, hk5, hli⟩ := fin (some .ret) W3 hk4
          have ht := hTr T' t1
          exact ⟨_, _, hr, T', fun r h => (t1 r h).imp id (Nat.le_trans hsW), fun r h => by rw [World.putObj_size]; exact t2 r h, hli, .inr ⟨rfl, .ret, putI (hIx _) _ hi3 ht hgv2, hl4, hk5, ht, hgv2⟩⟩
        | exit id =>
          obtain ⟨T', t1, t2, hk4, hi3⟩ := hp
          obtain ⟨hr, hl4, hk5, hli⟩ := fin (some (.exit id)) W3 hk4
          have ht := hTr T' t1
          exact ⟨_, _, hr, T', fun r h => (t1 r h).imp (fun h => h) (Nat.le_trans hsW), fun r h => by rw [World.putObj_size]; exact t2 r h, hli, .inr ⟨rfl, .exit id, putI (hIx _) _ hi3 ht hgv2, hl4, hk5, ht, hgv2⟩⟩
        | goto t =>
          obtain ⟨T', t1, t2, hk4, hi3⟩ := hp
          obtain ⟨hr, hl4, hk5, hli⟩ := fin (some (.goto t)) W3 hk4
          have ht := hTr T' t1
          exact ⟨_, _, hr, T', fun r h => (t1 r h).imp id (Nat.le_trans hsW), fun r h => by rw [World.putObj_size]; exact t2 r h, hli, .inr ⟨rfl, .goto t, putI (hIx _) _ hi3 ht hgv2, hl4, hk5, ht, hgv2⟩⟩
        | panic ch => exact hp.elim
        | outgrown => exact hp.elim
      | _ => exact hp.elim
    · rintro e W2 ⟨⟨v, rfl⟩, (⟨xs, T, hS, hi, hl, hk, ht, hv⟩ | ⟨pre, T, hSp, c, hi, hl, hk, ht, hv⟩)⟩
      · exact ⟨none, _, by have := run_endLoop (P := P) hl (by rw [hrec]; simp); rw [hrec] at this; exact this, hdone _ xs T _ hS (putI hI _ hi ht hv) rfl ((World.putObj_heap_other (by omega)).trans hk)⟩
      · exact ⟨some c, _, by have := run_endLoop (P := P) hl (by rw [hrec]; simp); rw [hrec] at this; exact this, hstop _ c pre T _ hSp (putI (hIx c) _ hi ht hv) rfl ((World.putObj_heap_other (by omega)).trans hk)⟩

theorem wpIn_world {c : Code} {Q : Exit → Act → World → Prop} {a : Act} {w : World} (h : ∀ W, W = w → c.wpIn F n P Q a W) : c.wpIn F n P Q a w := h w rfl
/-! A drawn region of quiet operations, in a round. -/
section
variable {ops : Array Oper} {md : Region.Mode} {C : World → Prop}
theorem inRound_of_quiet {l : Nat} {o : Oper} {a : Act} {w : World} {K : Act → Prop} {K' : Act → World → Prop} {Q : Exit → Act → World → Prop} (hd : ∀ c, o.op ≠ .defer c) (hw : C w) (h : ∀ a w', C w' → K a → K' a w') (hh : o.quiet P a C K) : o.wpIn (Fence.wide.inRound l) n P a w K' Q := by
  obtain ⟨v, h1, h2⟩ := hh
  have h3 := h1 w hw
  unfold Oper.quietAt at h3
  unfold Oper.wpIn
  refine ⟨fun _ _ => trivial, ?_⟩
  rw [Oper.semAt_eq _ _ _ hd]
  generalize (execOp a.eval o).run P w = r at *
  cases r with
  | ok nx w' =>
    cases nx <;> simp only [Oper.quietUpon] at h3 <;> simp only [Oper.uponIn]
    case value u =>
      obtain ⟨e1, e2⟩ := h3
      rw [e1, e2]
      exact h _ _ hw h2
    case skip =>
      obtain ⟨e1, e2⟩ := h3
      rw [e1, ← e2]
      exact h _ _ hw h2
    case enter f args =>
      obtain ⟨e1, hc⟩ := h3
      rw [e1]
      exact ⟨fun hh => (by cases hh), (callsIn_wide.2 (hc.mono fun e w'' ⟨he, hw''⟩ => by subst he; exact h _ _ hw'' h2)).inRound l⟩
  | halt x w' => simp only [Oper.quietUpon] at h3
theorem inRound_op {l : Nat} {i : Nat} {a : Act} {K : Act → Prop} {K' : Act → World → Prop} {Q' : Exit → Act → World → Prop} {w : World} (hd : ∀ o ∈ ops, ∀ c, o.op ≠ .defer c) (hC : C w) (h : ∀ a w', C w' → K a → K' a w') (hh : qOp P ops C i K a) : wpOpIn (Fence.wide.inRound l) n P ops Q' i K' a w := by
  unfold qOp at hh
  unfold wpOpIn
  split
  · rename_i ho; simp only [ho] at hh; exact h _ _ hC hh
  · rename_i o ho
    simp only [ho] at hh
    split
    · rename_i hw
      simp only [hw, if_true] at hh
      exact inRound_of_quiet (hd o (Array.mem_of_getElem? ho)) hC h hh
    · rename_i hw
      simp only [hw] at hh
      exact ⟨fun _ _ => trivial, h _ _ hC hh⟩
theorem inRound_any {l : Nat} {Q : Act → Prop} {Q' : Exit → Act → World → Prop} (hd : ∀ o ∈ ops, ∀ c, o.op ≠ .defer c) (hQ : ∀ a w, C w → Q a → Q' .normal a w) : ∀ (fuel : Nat) (listed : Array Bool) (a : Act) (w : World), C w →
    wpAnyQ P md ops C Q fuel listed a → wpAnyIn (Fence.wide.inRound l) n P md ops Q' fuel listed a w
  | 0, _, _, _, hw, h => ⟨h.1, hQ _ _ hw h.2⟩
  | fuel + 1, _, _, _, hw, h => ⟨fun h0 => hQ _ _ hw (h.1 h0), fun i hi => inRound_op hd hw (fun a' w' hw' => inRound_any hd hQ fuel _ a' w' hw') (h.2 i hi)⟩
theorem region_all_round {r : Nat} {id : Nat} {Q : Exit → Act → World → Prop} {a : Act} {w : World} {l : List Oper} (w0 : World) (hm : P.follows .mixedOrders = true) (hB : Region.lexB .any l.toArray = true)
    (hd : ∀ o ∈ l, ∀ c, o.op ≠ .defer c) (hw : Below w0.heap.size w0 w)
    (h : (∀ (x : Grew w) (b o : Nat), b < w.heap.size → x.val.cell? ⟨b, o, none⟩ = w.cell? ⟨b, o, none⟩) → Hid (∀ x : Grew w, Below w0.heap.size w0 x.val) →
      wpQuiet P l.toArray (fun w' => ∃ x : Grew w, w' = x.val) (fun a' => ∀ W1, Below w.heap.size w W1 → Below w0.heap.size w0 W1 → w.heap.size ≤ W1.heap.size → Q .normal a' W1) l a) : (Code.region id l.toArray true).wpIn (Fence.wide.inRound r) n P Q a w := by
  have h := h (fun x => x.cell) (fun x => via hw x.ok)
  simp only [Region.lexB, Bool.and_eq_true] at hB
  refine wpIn_region_any hm (inRound_any (C := fun w' => ∃ x : Grew w, w' = x.val) (Q := fun a' => ∀ W1, Below w.heap.size w W1 → Below w0.heap.size w0 W1 → w.heap.size ≤ W1.heap.size → Q .normal a' W1) (by simpa using hd) (fun a' w' hw' h => ?_) _ _ _ _ ⟨⟨_, (Below.refl _ w).drew⟩, rfl⟩ ?_)
  · obtain ⟨x, rfl⟩ := hw'
    exact h x.val x.ok (via hw x.ok) x.ok.size
  · have := wpAnyQ_lex (C := fun w' => ∃ x : Grew w, w' = x.val) (md := .any) hB.1 l.toArray.toList 0 (Array.replicate l.toArray.size false) a (by simp) (by simpa using hB.2) (by simpa using h)
    simpa using this
end
/-- A call of a function value. -/
theorem wpListIn_callv {ops : Array Oper} {rest : List Oper} {o : Oper} {a : Act} {Q : Exit → Act → World → Prop} {w : World} (hgd : o.guard = none) (fv x y : Operand) {ts : Array TypeId} {g : Nat} {first caps : Array Value} {X Y v : Value} {R : World → Prop}
    (ho : o.op = .call { callee := .value fv, args := #[x, y], argTypes := ts }) (hf : a.eval fv = .func (.func g) first caps) (hx : a.eval x = X) (hy : a.eval y = Y)
    (eg : ∀ args w, (callFunc g args).run P w = .ok (.enter g args) w) (hF : ∀ f, F.fn f) (hn : F.depth.isSome = true → 1 ≤ n)
    (hc : CallsIn F (n - 1) P g (first ++ #[X, Y] ++ caps) w fun e w' => e = .returned v ∧ R w')
    (hK : ∀ w', R w' → wpListIn F n P ops Q rest (a.put o.dst v) w') : wpListIn F n P ops Q (o :: rest) a w := by
  refine wpListIn_plain hgd fun K hK' => ?_
  unfold Oper.wpIn
  refine ⟨fun f _ => hF f, ?_⟩
  rw [Oper.semAt_plain F _ _ (by rw [ho]; intro c hc'; cases hc')]
  have hr : (execOp a.eval o).run P w = .ok (.enter g (first ++ #[X, Y] ++ caps)) w := by
    unfold execOp
    rw [ho]
    simp [resolve, invoke, hf, hx, hy, eg, Sem.run_bind, Deferred.ofValue, Result.andThen]
  rw [hr]
  refine ⟨hn, hc.mono ?_⟩
  rintro e w' ⟨rfl, hR⟩
  exact hK' _ _ (hK w' hR)
theorem wpListIn_app {ops : Array Oper} {rest : List Oper} {o : Oper} {a : Act} {Q : Exit → Act → World → Prop} {w w' : World} (hgd : o.guard = none) (s y : Operand) (t : TypeId) {v1 v2 v' : Value}
    (ho : o.op = .call { callee := .builtin .append, args := #[s, y], argTypes := #[t, t] }) (hs : a.eval s = v1) (hy : a.eval y = v2) (hr : (Builtin.append_ #[t, t] o.type #[v1, v2]).run P w = .ok v' w')
    (h : wpListIn F n P ops Q rest (a.put o.dst v') w') : wpListIn F n P ops Q (o :: rest) a w := by
  refine wpListIn_plain hgd fun K hK => ?_
  unfold Oper.wpIn
  refine ⟨by simp [Oper.about, ho, resolve, Target.leads, Sem.run_pure], ?_⟩
  rw [Oper.semAt_plain F _ _ (by rw [ho]; intro c hc'; cases hc')]
  simp [execOp, ho, resolve, invoke, builtin, hs, hy, hr, Result.andThen]
  exact hK _ _ h
end Go.Proofs
