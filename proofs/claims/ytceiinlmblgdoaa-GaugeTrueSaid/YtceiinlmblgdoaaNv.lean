import Derived.Test.YtceiinlmblgdoaaNu
set_option linter.unusedSimpArgs false
set_option linter.unusedVariables false
namespace Go.Proofs
open Go.RowKit
section
variable {P : Program} {ops : Array Oper}
theorem copyCall_any {Q : Exit → Act → World → Prop} {w : World} {c q m k dc dq d : Nat} {Pr : Value → World → Prop} {vq : Value} {z z' : Obj} {af : Act} (N : CopyCall P ops w c q m k dc dq d Pr vq z z' af)
    (hQ : ∀ (B : Nat) (V : Value) (x : World), w.heap.size ≤ B → Below w.heap.size w x → x.heap[B]? = some z' → Q .normal (frameOf af d dc (.pointer (some ⟨B, 0, none⟩)) V) x) :
    ∀ (f : Nat) (listed : Array Bool) (a : Act) (x : World), listed.size = ops.size → unlisted ops.size listed ≤ f → Mid ops w c q m k d dc Pr z z' af listed a x → wpAny P .any ops Q f listed a x := by
  have hend : ∀ (listed : Array Bool) (a : Act) (x : World), listed.size = ops.size → Mid ops w c q m k d dc Pr z z' af listed a x → Region.ready .any ops listed = [] → Q .normal a x := by
    intro listed a x hz h hr
    have hu := all_up N.slots hz hr
    obtain ⟨om, hm1, _⟩ := N.alloc
    obtain ⟨ok, hk1, _⟩ := N.store
    have hm := hu m (lt_of_some hm1)
    have hk := hu k (lt_of_some hk1)
    obtain ⟨hb, _, V1, V2, hag, hmm, _⟩ := h
    obtain ⟨B, rfl, h2, h5⟩ := hmm hm
    rw [hk, if_pos rfl] at h5
    rw [agree_all hag hu]
    exact hQ B V2 x h2 hb h5
  intro f
  induction f with
  | zero =>
    intro listed a x hz hf h
    have hr : Region.ready .any ops listed = [] := by
      rw [List.eq_nil_iff_forall_not_mem]
      intro i hi
      obtain ⟨hiu, o, ho, _⟩ := mem_ready.1 hi
      have := unlisted_set (n := ops.size) (lt_of_some ho) hiu
      omega
    exact ⟨hr, hend listed a x hz h hr⟩
  | succ f ih =>
    intro listed a x hz hf h
    refine ⟨fun hr => hend listed a x hz h hr, fun i hi => ?_⟩
    obtain ⟨hiu, o, ho, _⟩ := mem_ready.1 hi
    have hl := unlisted_set (n := ops.size) (lt_of_some ho) hiu
    exact wpOp_mono (fun a' x' h' => ih _ a' x' (by simpa using hz) (by omega) h') (copyCall_step N hi h)

def yieldsC (v : Value) (o : Oper) : Oper := { o with op := .move (.const v) }
def dummyC (c q m k : Nat) (vq : Value) : Nat → List Oper → List Oper
  | _, [] => []
  | i, o :: l => (if i == q then yieldsC vq o else if i == c || i == m || i == k then struck o else o) :: dummyC c q m k vq (i + 1) l
theorem dummyC_get (c q m k : Nat) (vq : Value) : ∀ (l : List Oper) (i j : Nat), (dummyC c q m k vq i l)[j]? = (l[j]?).map fun o => if i + j == q then yieldsC vq o else if i + j == c || i + j == m || i + j == k then struck o else o
  | [], i, j => by simp [dummyC]
  | o :: l, i, 0 => by simp [dummyC]
  | o :: l, i, j + 1 => by
    simp only [dummyC, List.getElem?_cons_succ]
    rw [dummyC_get c q m k vq l (i + 1) j]
    congr 2
    funext o
    rw [show i + 1 + j = i + (j + 1) by omega]
def copyB (ops : Array Oper) (c q m k dc dq d : Nat) : Bool :=
  (decide (m ≠ k) && decide (c ≠ q) && decide (c ≠ m) && decide (c ≠ k) && decide (q ≠ m) && decide (q ≠ k) && decide (d ≠ dc) && decide (dq ≠ d) && decide (dq ≠ dc)) &&
  (match ops[m]? with | some o => o.dst == some d && o.guard.isNone | none => false) &&
  (match ops[k]? with | some o => o.dst.isNone && o.guard.isNone && (o.looksAt ops).contains d && o.after.any (fun e => Region.binds .any e && e.on == q) | none => false) &&
  (match ops[c]? with | some o => o.dst == some dc && o.guard.isNone | none => false) &&
  (match ops[q]? with | some o => o.dst == some dq && o.guard.isNone && (o.looksAt ops).contains dc | none => false) &&
  (List.range ops.size).all fun i => match ops[i]? with | some o => (i == k || !(o.looksAt ops).contains d) && (i == q || !(o.looksAt ops).contains dc) | none => true

theorem region_copy {id : Nat} {Q : Exit → Act → World → Prop} {a : Act} {w : World} {l : List Oper} (w0 : World) (c q m k dc dq d : Nat) (Pr : Value → World → Prop) (vq : Value) (z z' : Obj) (af : Act) (hm : P.follows .mixedOrders = true)
    (hB : slotsOk l.toArray = true) (hB' : slotsOk (dummyC c q m k vq 0 l).toArray = true) (hS : Region.noSelect l.toArray = true) (hN : copyB l.toArray c q m k dc dq d = true) (hw : Below w0.heap.size w0 w)
    (hst : ∀ V x x', Pr V x → Below x.heap.size x x' → Pr V x')
    (hal : ∀ o, l[m]? = some o → ∀ (a : Act) (x : World), (execOp a.eval o).run P x = .ok (.value (.pointer (some ⟨x.heap.size, 0, none⟩))) (x.alloc z))
    (hq : ∀ u, Below w.heap.size w u → (∀ (x : Grew u) (b o : Nat), b < u.heap.size → x.val.cell? ⟨b, o, none⟩ = u.cell? ⟨b, o, none⟩) → Hid (∀ x : Grew u, Below w0.heap.size w0 x.val) → Hid (∀ x : Grew u, Below w.heap.size w x.val) →
      wpQuiet P (dummyC c q m k vq 0 l).toArray (fun w' => ∃ x : Grew u, w' = x.val) (fun a' => a' = af) (dummyC c q m k vq 0 l) a)
    (hcp : ∀ o, l[c]? = some o → ∀ x, Below w.heap.size w x → Below w0.heap.size w0 x → ∃ f args, (execOp af.eval o).run P x = .ok (.enter f args) x ∧ Calls P f args x fun e x' => ∃ V, e = .returned V ∧ Pr V x' ∧ Below x.heap.size x x')
    (hcl : ∀ o, l[q]? = some o → ∀ V x, Below w.heap.size w x → Below w0.heap.size w0 x → Pr V x → ∃ f args, (execOp (af.put (some dc) V).eval o).run P x = .ok (.enter f args) x ∧ Calls P f args x fun e x' => e = .returned vq ∧ Below x.heap.size x x')
    (hsto : ∀ o, l[k]? = some o → ∀ (B : Nat) (x : World), Below w.heap.size w x → w.heap.size ≤ B → x.heap[B]? = some z →
      ∃ x', (execOp (af.put (some d) (.pointer (some ⟨B, 0, none⟩))).eval o).run P x = .ok .skip x' ∧ Below w.heap.size w x' ∧ x'.heap[B]? = some z')
    (h : ∀ (B : Nat) (V : Value) (x : World), w.heap.size ≤ B → Below w.heap.size w x → Below w0.heap.size w0 x → x.heap[B]? = some z' → Q .normal ((af.put (some d) (.pointer (some ⟨B, 0, none⟩))).put (some dc) V) x) :
    (Code.region id l.toArray true).wp P Q a w := by
  simp only [copyB, Bool.and_eq_true, decide_eq_true_eq, List.all_eq_true, List.mem_range] at hN
  obtain ⟨⟨⟨⟨⟨n1, n2⟩, n3⟩, n4⟩, n5⟩, n6⟩ := hN
  have H := slotsOk_spec hB
  have H' := slotsOk_spec hB'
  have hsel := Region.noSelect_spec hS
  have get' : ∀ j : Nat, (dummyC c q m k vq 0 l).toArray[j]? = (l.toArray[j]?).map fun o => if j == q then yieldsC vq o else if j == c || j == m || j == k then struck o else o := fun j => by
    have := dummyC_get c q m k vq l 0 j
    simpa using this
  have hdst : ∀ (j : Nat) (o : Oper), (if (j == q) = true then yieldsC vq o else if (j == c || j == m || j == k) = true then struck o else o).dst = o.dst := fun j o => by
    split
    · rfl
    · split <;> rfl
  have hyd : ∀ (t : Array Value) (g : Nat), yielded (dummyC c q m k vq 0 l).toArray t g = yielded l.toArray t g := fun t g => by
    unfold yielded
    rw [get']
    cases l.toArray[g]? with
    | none => rfl
    | some o => simp only [Option.map_some, Option.bind_some, hdst]
  have hwt : ∀ (o : Oper) (t : Array Value), Region.wanted o (yielded (dummyC c q m k vq 0 l).toArray t) = Region.wanted o (yielded l.toArray t) := fun o t => by
    have : yielded (dummyC c q m k vq 0 l).toArray t = yielded l.toArray t := funext (hyd t)
    rw [this]
  have hsel' : ∀ (j : Nat) (o : Oper) cs b, (dummyC c q m k vq 0 l).toArray[j]? = some o → o.op ≠ .select cs b := fun j o cs b ho => by
    rw [get'] at ho
    cases hj : l.toArray[j]? with
    | none => rw [hj] at ho; cases ho
    | some o' =>
      rw [hj] at ho
      simp only [Option.map_some, Option.some.injEq] at ho
      subst ho
      split
      · simp [yieldsC]
      · split
        · simp [struck]
        · exact hsel j o' cs b hj
  have hfin := fun u hu => fin_of_quiet H' hsel' (dummyC c q m k vq 0 l) 0 a (fun j => by simp) (hq u hu (fun x => x.cell) (fun x => via hw (via hu x.ok)) (fun x => via hu x.ok))
  have hquiet : ∀ (i : Nat) (o : Oper), i ≠ c → i ≠ q → i ≠ m → i ≠ k → l.toArray[i]? = some o → ∀ u, Below w.heap.size w u → ∃ v, YieldsIn P l.toArray (above u) o v af ∧ ∀ s, o.dst = some s → s < af.tmps.size → af.tmps[s]? = some v := by
    intro i o hic hiq him hik ho u hu
    have ho' : (dummyC c q m k vq 0 l).toArray[i]? = some o := by
      rw [get', ho]
      simp [hic, hiq, him, hik]
    obtain ⟨v, hy, hv⟩ := (hfin u hu).1 i o (Nat.zero_le _) ho'
    refine ⟨v, ?_, hv⟩
    rw [above_grew]
    unfold YieldsIn at *
    rwa [hwt] at hy
  obtain ⟨f1, f2, f3, f4⟩ := hfin w (Below.refl _ _)
  obtain ⟨oc, hoc, oc2, oc3⟩ : ∃ o, l.toArray[c]? = some o ∧ o.dst = some dc ∧ o.guard = none := by
    cases hj : l.toArray[c]? with
    | none => rw [hj] at n4; cases n4
    | some o =>
      rw [hj] at n4
      simp only [Bool.and_eq_true, beq_iff_eq, Option.isNone_iff_eq_none] at n4
      exact ⟨o, rfl, n4.1, n4.2⟩
  obtain ⟨oq, hoq, oq2, oq3, oq4⟩ : ∃ o, l.toArray[q]? = some o ∧ o.dst = some dq ∧ o.guard = none ∧ dc ∈ o.looksAt l.toArray := by
    cases hj : l.toArray[q]? with
    | none => rw [hj] at n5; cases n5
    | some o =>
      rw [hj] at n5
      simp only [Bool.and_eq_true, beq_iff_eq, Option.isNone_iff_eq_none, List.contains_iff_mem] at n5
      exact ⟨o, rfl, n5.1.1, n5.1.2, n5.2⟩
  have hres : dq < af.tmps.size → af.tmps[dq]? = some vq := by
    intro hlt
    have ho' : (dummyC c q m k vq 0 l).toArray[q]? = some (yieldsC vq oq) := by
      rw [get', hoq]
      simp
    obtain ⟨v, hy, hv⟩ := f1 q _ (Nat.zero_le _) ho'
    have := hv dq oq2 hlt
    rw [this]
    rcases hy with ⟨_, h2⟩ | ⟨h1, _⟩
    · have h3 := h2 w ⟨⟨w, Below.refl _ _⟩, rfl⟩
      unfold Oper.quietAt at h3
      have h4 : (execOp af.eval (yieldsC vq oq)).run P w = .ok (.value vq) w := by unfold execOp yieldsC; rfl
      rw [h4] at h3
      simp only [Oper.quietUpon] at h3
      rw [h3.2]
    · unfold Region.wanted at h1
      rw [show (yieldsC vq oq).guard = none from oq3] at h1
      cases h1
  refine wp_region_any hm (copyCall_any (c := c) (q := q) (m := m) (k := k) (dc := dc) (dq := dq) (d := d) (Pr := Pr) (vq := vq) (z := z) (z' := z') (af := af)
    ⟨H, hsel, hquiet, ?_, fun o ho => ?_, fun o ho => ?_, ⟨oc, hoc⟩, hres, hst, ?_, ?_, ?_⟩ (fun B V x h1 h2 h3 => h B V x h1 h2 (via hw h2) h3) _ _ _ _ (by simp) ?_ ⟨(Below.refl _ w).drew, fun _ => ?_, undef, undef, ⟨?_, ?_, fun s hs => ?_⟩, fun h => ?_, fun h => ?_⟩)
  · intro i o ho
    have := n6 i (lt_of_some ho)
    rw [ho] at this
    simp only [Bool.and_eq_true, Bool.or_eq_true, beq_iff_eq, Bool.not_eq_true', List.contains_eq_mem, decide_eq_false_iff_not] at this
    exact ⟨fun hik => this.1.resolve_left hik, fun hiq => this.2.resolve_left hiq⟩
  · obtain rfl : oc = o := Option.some.inj (hoc.symm.trans ho)
    exact ⟨oc2, oc3, fun x hx => hcp oc (by simpa using hoc) x hx (via hw hx)⟩
  · obtain rfl : oq = o := Option.some.inj (hoq.symm.trans ho)
    exact ⟨oq2, oq3, oq4, fun V x hx hp => hcl oq (by simpa using hoq) V x hx (via hw hx) hp⟩
  · cases hj : l.toArray[m]? with
    | none => rw [hj] at n2; cases n2
    | some o =>
      rw [hj] at n2
      simp only [Bool.and_eq_true, beq_iff_eq, Option.isNone_iff_eq_none] at n2
      exact ⟨o, rfl, n2.1, n2.2, hal o (by simpa using hj)⟩
  · cases hj : l.toArray[k]? with
    | none => rw [hj] at n3; cases n3
    | some o =>
      rw [hj] at n3
      simp only [Bool.and_eq_true, Option.isNone_iff_eq_none, List.contains_iff_mem] at n3
      obtain ⟨e, he, hb⟩ := Array.any_eq_true'.1 n3.2
      simp only [Bool.and_eq_true, beq_iff_eq] at hb
      exact ⟨o, rfl, n3.1.1.1, n3.1.1.2, n3.1.2, ⟨e, he, hb⟩, hsto o (by simpa using hj)⟩
  · obtain ⟨⟨⟨⟨⟨⟨⟨⟨a1, a2⟩, a3⟩, a4⟩, a5⟩, a6⟩, a7⟩, a8⟩, a9⟩ := n1
    exact ⟨a1, a2, a3, a4, a5, a6, a7, a8, a9⟩
  · unfold unlisted
    exact Nat.le_trans (List.length_filter_le _ _) (by simp)
  · have hlt : k < l.toArray.size := by
      rcases Nat.lt_or_ge k l.toArray.size with h | h
      · exact h
      · rw [Array.getElem?_eq_none h] at n3; cases n3
    simp only [List.size_toArray] at hlt
    simp [hlt]
  · rw [frameOf_size]; exact f2
  · exact f3.trans (by unfold frameOf; rw [put_defers, put_defers])
  · have hnw : ∀ (j : Nat) (oj : Oper), l.toArray[j]? = some oj → oj.dst ≠ some s := fun j oj hj hd => by
      have := hs j oj hj hd
      have hlt := lt_of_some hj
      simp only [List.size_toArray] at hlt
      simp [hlt] at this
    have hsd : s ≠ d := by
      rintro rfl
      cases hj : l.toArray[m]? with
      | none => rw [hj] at n2; cases n2
      | some o =>
        rw [hj] at n2
        simp only [Bool.and_eq_true, beq_iff_eq, Option.isNone_iff_eq_none] at n2
        exact hnw m o hj n2.1
    have hsc : s ≠ dc := by rintro rfl; exact hnw c oc hoc oc2
    rw [frameOf_get hsd hsc]
    refine f4 s fun j oj _ hj hd => ?_
    rw [get'] at hj
    cases hjj : l.toArray[j]? with
    | none => rw [hjj] at hj; cases hj
    | some o' =>
      rw [hjj] at hj
      simp only [Option.map_some, Option.some.injEq] at hj
      exact hnw j o' hjj (by rw [← hd, ← hj]; exact (hdst j o').symm)
  · exfalso
    have hlt : m < l.toArray.size := by
      rcases Nat.lt_or_ge m l.toArray.size with h | h
      · exact h
      · rw [Array.getElem?_eq_none h] at n2; cases n2
    simp only [List.size_toArray] at hlt
    simp [hlt] at h
  · exfalso
    have hlt := lt_of_some hoc
    simp only [List.size_toArray] at hlt
    simp [hlt] at h
end
end Go.Proofs
