import Derived.Test.YtpmliaildjomeaaGreatDoorMg10
set_option linter.unusedSimpArgs false
set_option linter.unusedVariables false
namespace Go.Proofs
open Go.RowKit
section
variable {P : Program} {ops : Array Oper}
/-- The two frames agree on the slots whose writers have all come up. -/
def Agree (ops : Array Oper) (listed : Array Bool) (a b : Act) : Prop :=
  a.tmps.size = b.tmps.size ∧ a.defers = b.defers ∧ ∀ s : Nat, (∀ (j : Nat) (oj : Oper), ops[j]? = some oj → oj.dst = some s → listed.getD j true = true) → a.tmps[s]? = b.tmps[s]?
theorem getD_tt {listed : Array Bool} {j : Nat} (h : listed.getD j false = true) : listed.getD j true = true := by
  rcases Nat.lt_or_ge j listed.size with h' | h'
  · simp [h'] at h ⊢; exact h
  · simp [Array.getElem?_eq_none h'] at h
theorem agree_look (H : SlotsOk ops) {listed : Array Bool} {a b : Act} (h : Agree ops listed a b) {i : Nat} {o : Oper} (hi : ops[i]? = some o) (hr : i ∈ Region.ready .any ops listed) : ∀ s ∈ o.looksAt ops, a.tmps[s]? = b.tmps[s]? := fun s hs =>
  h.2.2 s fun j oj hj hd => by
    obtain ⟨_, e, he, hb, hon⟩ := H.look i o s j oj hi hs hj hd
    obtain ⟨_, o', ho', hall⟩ := mem_ready.1 hr
    obtain rfl : o = o' := Option.some.inj (hi.symm.trans ho')
    have := hall e he hb
    rw [hon] at this
    exact getD_tt this
theorem agree_put (H : SlotsOk ops) {listed : Array Bool} {a b : Act} (h : Agree ops listed a b) {i : Nat} {o : Oper} (hi : ops[i]? = some o) {v : Value} (hv : ∀ s, o.dst = some s → s < b.tmps.size → b.tmps[s]? = some v) : Agree ops (listed.setIfInBounds i true) (a.put o.dst v) b := by
  refine ⟨by rw [put_size]; exact h.1, by rw [put_defers]; exact h.2.1, fun s hs => ?_⟩
  by_cases hd : o.dst = some s
  · rw [hd]
    by_cases hlt : s < b.tmps.size
    · rw [put_at (by rw [h.1]; exact hlt), hv s hd hlt]
    · rw [put_out (by rw [h.1]; exact hlt), Array.getElem?_eq_none (by omega)]
  · rw [put_get hd]
    refine h.2.2 s fun j oj hj hdj => ?_
    have hij : i ≠ j := by
      rintro rfl
      obtain rfl : o = oj := Option.some.inj (hi.symm.trans hj)
      exact hd hdj
    have := hs j oj hj hdj
    rwa [getD_set_ne true hij] at this
def above (u : World) : World → Prop := fun x => Below u.heap.size u x

/-- A region in a call that began in 'w', of quiet operations, one new block (operation 'm', its pointer in slot 'd'), and one store into that block (operation 'k'), in whatever order. -/
structure NewBlock (P : Program) (ops : Array Oper) (w : World) (m k d : Nat) (z z' : Obj) (af : Act) : Prop where
  slots : SlotsOk ops
  sel : ∀ (j : Nat) (o : Oper) cs b, ops[j]? = some o → o.op ≠ .select cs b
  quiet : ∀ (i : Nat) (o : Oper), i ≠ m → i ≠ k → ops[i]? = some o → ∀ u, Below w.heap.size w u → ∃ v, YieldsIn P ops (above u) o v af ∧ ∀ s, o.dst = some s → s < af.tmps.size → af.tmps[s]? = some v
  apart : ∀ (i : Nat) (o : Oper), i ≠ k → ops[i]? = some o → d ∉ o.looksAt ops
  alloc : ∃ o, ops[m]? = some o ∧ o.dst = some d ∧ o.guard = none ∧ ∀ (a : Act) (x : World), (execOp a.eval o).run P x = .ok (.value (.pointer (some ⟨x.heap.size, 0, none⟩))) (x.alloc z)
  store : ∃ o, ops[k]? = some o ∧ o.dst = none ∧ o.guard = none ∧ d ∈ o.looksAt ops ∧ ∀ (B : Nat) (x : World), Below w.heap.size w x → w.heap.size ≤ B → x.heap[B]? = some z →
    ∃ x', (execOp (af.put (some d) (.pointer (some ⟨B, 0, none⟩))).eval o).run P x = .ok .skip x' ∧ Below w.heap.size w x' ∧ x'.heap[B]? = some z'
  ne : m ≠ k

def Before (ops : Array Oper) (w : World) (m k : Nat) (af : Act) (listed : Array Bool) (a : Act) (x : World) : Prop :=
  listed.getD m true = false ∧ listed.getD k true = false ∧ Agree ops listed a af ∧ Below w.heap.size w x
def Behind (ops : Array Oper) (w : World) (m k d : Nat) (z z' : Obj) (af : Act) (listed : Array Bool) (a : Act) (x : World) : Prop :=
  listed.getD m true = true ∧ ∃ B, w.heap.size ≤ B ∧ Agree ops listed a (af.put (some d) (.pointer (some ⟨B, 0, none⟩))) ∧ Below w.heap.size w x ∧ x.heap[B]? = some (if listed.getD k true = true then z' else z)

theorem wp_yields {C : World → Prop} {Q : Exit → Act → World → Prop} {i : Nat} {o : Oper} {v : Value} {a : Act} {x : World} {K : Act → World → Prop} (hi : ops[i]? = some o) (hy : YieldsIn P ops C o v a) (hC : C x) (h : ∀ x', C x' → K (a.put o.dst v) x') : wpOp P ops Q i K a x :=
  wpOp_of_qOp (K := fun a' => a' = a.put o.dst v) hC (fun a' w' hw' he => by subst he; exact h w' hw') (hy.qOp hi rfl)

theorem newBlock_step {Q : Exit → Act → World → Prop} {w : World} {m k d : Nat} {z z' : Obj} {af : Act} (N : NewBlock P ops w m k d z z' af) {listed : Array Bool} {a : Act} {x : World} {i : Nat} (hi : i ∈ Region.ready .any ops listed)
    (h : Before ops w m k af listed a x ∨ Behind ops w m k d z z' af listed a x) :
    wpOp P ops Q i (fun a' x' => Before ops w m k af (listed.setIfInBounds i true) a' x' ∨ Behind ops w m k d z z' af (listed.setIfInBounds i true) a' x') a x := by
  obtain ⟨hiu, o, ho, hall⟩ := mem_ready.1 hi
  obtain ⟨om, hm1, hm2, hm3, hm4⟩ := N.alloc
  obtain ⟨ok, hk1, hk2, hk3, hk4, hk5⟩ := N.store
  have hself : ∀ j : Nat, (listed.setIfInBounds j true).getD j true = true := fun j => by
    simp only [Array.getD_eq_getD_getElem?, Array.getElem?_setIfInBounds]
    by_cases hs : j < listed.size <;> simp [hs]
  by_cases him : i = m
  · subst him
    obtain rfl : o = om := Option.some.inj (ho.symm.trans hm1)
    rcases h with ⟨h1, h2, h3, h4⟩ | ⟨h1, _⟩
    · unfold wpOp
      simp only [ho]
      have hw : Region.wanted o (yielded ops a.tmps) = true := by unfold Region.wanted; rw [hm3]
      rw [if_pos hw]
      refine .inl ?_
      unfold Oper.wp
      rw [hm4 a x, Oper.upon_value]
      refine .inr ⟨hself _, x.heap.size, h4.size, ?_, via_alloc h4 _, ?_⟩
      · have h3' : Agree ops listed a af := h3
        refine ⟨by rw [put_size, put_size]; exact h3.1, by rw [put_defers, put_defers]; exact h3.2.1, fun s hs => ?_⟩
        by_cases hsd : s = d
        · subst hsd
          rw [hm2]
          by_cases hlt : s < a.tmps.size
          · rw [put_at hlt, put_at (by rw [← h3.1]; exact hlt)]
          · rw [put_out hlt, put_out (by rw [← h3.1]; exact hlt)]
        · rw [put_get (by rw [hm2]; intro e; exact hsd (Option.some.inj e).symm), put_get (by intro e; exact hsd (Option.some.inj e).symm)]
          refine h3.2.2 s fun j oj hj hdj => ?_
          have hij : i ≠ j := by
            rintro rfl
            obtain rfl : o = oj := Option.some.inj (ho.symm.trans hj)
            rw [hm2] at hdj
            exact hsd (Option.some.inj hdj).symm
          have := hs j oj hj hdj
          rwa [getD_set_ne true hij] at this
      · rw [getD_set_ne true N.ne, h2]
        exact bk_new _ _ rfl
    · rw [h1] at hiu; cases hiu
  by_cases hik : i = k
  · subst hik
    obtain rfl : o = ok := Option.some.inj (ho.symm.trans hk1)
    have hml : listed.getD m true = true := by
      obtain ⟨_, e, he, hb, hon⟩ := N.slots.look i o d m om ho hk4 hm1 hm2
      have := hall e he hb
      rw [hon] at this
      exact getD_tt this
    rcases h with ⟨h1, _⟩ | ⟨h1, B, h2, h3, h4, h5⟩
    · rw [hml] at h1; cases h1
    · rw [hiu] at h5
      obtain ⟨x', r1, r2, r3⟩ := hk5 B x h4 h2 h5
      unfold wpOp
      simp only [ho]
      have hw : Region.wanted o (yielded ops a.tmps) = true := by unfold Region.wanted; rw [hk3]
      rw [if_pos hw]
      refine .inl ?_
      unfold Oper.wp
      rw [exec_same (N.sel i o · · ho) (agree_look N.slots h3 ho hi), r1, Oper.upon_skip]
      refine .inr ⟨by rw [getD_set_ne true him]; exact hml, B, h2, ?_, r2, ?_⟩
      · exact agree_put N.slots h3 ho (fun s hs => by rw [hk2] at hs; cases hs)
      · rw [hself]; exact r3
  · rcases h with ⟨h1, h2, h3, h4⟩ | ⟨h1, B, h2, h3, h4, h5⟩
    · obtain ⟨v, hy, hv⟩ := N.quiet i o him hik ho x h4
      have hy' := yields_same (N.sel i o · · ho) (fun s hs => (agree_look N.slots h3 ho hi s hs).symm) hy
      refine wp_yields ho hy' (Below.refl _ _) fun x' hx' => .inl ⟨by rw [getD_set_ne true him]; exact h1, by rw [getD_set_ne true hik]; exact h2, agree_put N.slots h3 ho hv, via h4 hx'⟩
    · obtain ⟨v, hy, hv⟩ := N.quiet i o him hik ho x h4
      have hap := N.apart i o hik ho
      have hy' := yields_same (N.sel i o · · ho) (fun s hs => ((agree_look N.slots h3 ho hi s hs).trans (put_get (fun e => hap (by rw [Option.some.inj e]; exact hs)))).symm) hy
      refine wp_yields ho hy' (Below.refl _ _) fun x' hx' => .inr ⟨by rw [getD_set_ne true him]; exact h1, B, h2, agree_put N.slots h3 ho (fun s hs hlt => ?_), via h4 hx', ?_⟩
      · have hsd : s ≠ d := by
          rintro rfl
          exact him (N.slots.dst m i om o s hm1 ho hm2 hs)
        rw [put_get (by intro e; exact hsd (Option.some.inj e).symm)]
        exact hv s hs (by rwa [put_size] at hlt)
      · rw [getD_set_ne true hik]
        exact bk_keep hx' h5

theorem all_up (H : SlotsOk ops) {listed : Array Bool} (hz : listed.size = ops.size) (h : Region.ready .any ops listed = []) : ∀ j, j < ops.size → listed.getD j true = true := by
  intro j
  induction j using Nat.strongRecOn with
  | _ j ih =>
    intro hj
    cases hu : listed.getD j true with
    | true => rfl
    | false =>
      exfalso
      have : j ∈ Region.ready .any ops listed := mem_ready.2 ⟨hu, ops[j], Array.getElem?_eq_getElem hj, fun e he hb => by
        have h1 := H.after j _ e (Array.getElem?_eq_getElem hj) he hb
        have h2 := ih e.on h1 (by omega)
        have h3 : e.on < listed.size := by omega
        simp [h3] at h2 ⊢
        exact h2⟩
      rw [h] at this; cases this
theorem agree_all {listed : Array Bool} {a b : Act} (h : Agree ops listed a b) (hu : ∀ j, j < ops.size → listed.getD j true = true) : a = b :=
  act_ext h.2.1 fun s => h.2.2 s fun j oj hj _ => hu j (lt_of_some hj)

theorem newBlock_any {Q : Exit → Act → World → Prop} {w : World} {m k d : Nat} {z z' : Obj} {af : Act} (N : NewBlock P ops w m k d z z' af)
    (hQ : ∀ (B : Nat) (x : World), w.heap.size ≤ B → Below w.heap.size w x → x.heap[B]? = some z' → Q .normal (af.put (some d) (.pointer (some ⟨B, 0, none⟩))) x) :
    ∀ (f : Nat) (listed : Array Bool) (a : Act) (x : World), listed.size = ops.size → unlisted ops.size listed ≤ f → (Before ops w m k af listed a x ∨ Behind ops w m k d z z' af listed a x) → wpAny P .any ops Q f listed a x := by
  have hend : ∀ (listed : Array Bool) (a : Act) (x : World), listed.size = ops.size → (Before ops w m k af listed a x ∨ Behind ops w m k d z z' af listed a x) → Region.ready .any ops listed = [] → Q .normal a x := by
    intro listed a x hz h hr
    have hu := all_up N.slots hz hr
    obtain ⟨om, hm1, _⟩ := N.alloc
    obtain ⟨ok, hk1, _⟩ := N.store
    have hm := hu m (lt_of_some hm1)
    have hk := hu k (lt_of_some hk1)
    rcases h with ⟨h1, _⟩ | ⟨_, B, h2, h3, h4, h5⟩
    · rw [hm] at h1; cases h1
    · rw [hk, if_pos rfl] at h5
      rw [agree_all h3 hu]
      exact hQ B x h2 h4 h5
  intro f
  induction f with
  | zero =>
    intro listed a x hz hf h
    have hr : Region.ready .any ops listed = [] := by
      rw [List.eq_nil_iff_forall_not_mem]
      intro i hi
      obtain ⟨hiu, o, ho, _⟩ := mem_ready.1 hi
      have := unlisted_set (n := ops.size) (lt_of_some ho) hiu
      omega
    exact ⟨hr, hend listed a x hz h hr⟩
  | succ f ih =>
    intro listed a x hz hf h
    refine ⟨fun hr => hend listed a x hz h hr, fun i hi => ?_⟩
    obtain ⟨hiu, o, ho, _⟩ := mem_ready.1 hi
    have hl := unlisted_set (n := ops.size) (lt_of_some ho) hiu
    exact wpOp_mono (fun a' x' h' => ih _ a' x' (by simpa using hz) (by omega) h') (newBlock_step N hi h)

/-! The text with the two operations of memory struck. -/
def struck (o : Oper) : Oper := { o with op := .move (.const undef) }
def dummyAt (m k : Nat) : Nat → List Oper → List Oper
  | _, [] => []
  | i, o :: l => (if i == m || i == k then struck o else o) :: dummyAt m k (i + 1) l
theorem dummyAt_get (m k : Nat) : ∀ (l : List Oper) (i j : Nat), (dummyAt m k i l)[j]? = (l[j]?).map fun o => if i + j == m || i + j == k then struck o else o
  | [], i, j => by simp [dummyAt]
  | o :: l, i, 0 => by simp [dummyAt]
  | o :: l, i, j + 1 => by
    simp only [dummyAt, List.getElem?_cons_succ]
    rw [dummyAt_get m k l (i + 1) j]
    congr 2
    funext o
    rw [show i + 1 + j = i + (j + 1) by omega]
def newB (ops : Array Oper) (m k d : Nat) : Bool :=
  decide (m ≠ k) && (match ops[m]? with | some o => o.dst == some d && o.guard.isNone | none => false) &&
  (match ops[k]? with | some o => o.dst.isNone && o.guard.isNone && (o.looksAt ops).contains d | none => false) &&
  (List.range ops.size).all fun i => i == k || match ops[i]? with | some o => !(o.looksAt ops).contains d | none => true

theorem region_new {id : Nat} {Q : Exit → Act → World → Prop} {a : Act} {w : World} {l : List Oper} (m k d : Nat) (z z' : Obj) (af : Act) (hm : P.follows .mixedOrders = true)
    (hB : slotsOk l.toArray = true) (hB' : slotsOk (dummyAt m k 0 l).toArray = true) (hS : Region.noSelect l.toArray = true) (hN : newB l.toArray m k d = true)
    (hal : ∀ o, l[m]? = some o → ∀ (a : Act) (x : World), (execOp a.eval o).run P x = .ok (.value (.pointer (some ⟨x.heap.size, 0, none⟩))) (x.alloc z))
    (hq : ∀ u, Below w.heap.size w u → wpQuiet P (dummyAt m k 0 l).toArray (above u) (fun a' => a' = af) (dummyAt m k 0 l) a)
    (hst : ∀ o, l[k]? = some o → ∀ (B : Nat) (x : World), Below w.heap.size w x → w.heap.size ≤ B → x.heap[B]? = some z →
      ∃ x', (execOp (af.put (some d) (.pointer (some ⟨B, 0, none⟩))).eval o).run P x = .ok .skip x' ∧ Below w.heap.size w x' ∧ x'.heap[B]? = some z')
    (h : ∀ (B : Nat) (x : World), w.heap.size ≤ B → Below w.heap.size w x → x.heap[B]? = some z' → Q .normal (af.put (some d) (.pointer (some ⟨B, 0, none⟩))) x) :
    (Code.region id l.toArray true).wp P Q a w := by
  simp only [newB, Bool.and_eq_true, decide_eq_true_eq, List.all_eq_true, List.mem_range] at hN
  obtain ⟨⟨⟨n1, n2⟩, n3⟩, n4⟩ := hN
  have H := slotsOk_spec hB
  have H' := slotsOk_spec hB'
  have hsel := Region.noSelect_spec hS
  have get' : ∀ j : Nat, (dummyAt m k 0 l).toArray[j]? = (l.toArray[j]?).map fun o => if j == m || j == k then struck o else o := fun j => by
    have := dummyAt_get m k l 0 j
    simpa using this
  have hyd : ∀ (t : Array Value) (g : Nat), yielded (dummyAt m k 0 l).toArray t g = yielded l.toArray t g := fun t g => by
    unfold yielded
    rw [get']
    cases l.toArray[g]? with
    | none => rfl
    | some o =>
      have : (if (g == m || g == k) = true then struck o else o).dst = o.dst := by split <;> rfl
      simp only [Option.map_some, Option.bind_some, this]
  have hwt : ∀ (o : Oper) (t : Array Value), Region.wanted o (yielded (dummyAt m k 0 l).toArray t) = Region.wanted o (yielded l.toArray t) := fun o t => by
    have : yielded (dummyAt m k 0 l).toArray t = yielded l.toArray t := funext (hyd t)
    rw [this]
  have hsel' : ∀ (j : Nat) (o : Oper) cs b, (dummyAt m k 0 l).toArray[j]? = some o → o.op ≠ .select cs b := fun j o cs b ho => by
    rw [get'] at ho
    cases hj : l.toArray[j]? with
    | none => rw [hj] at ho; cases ho
    | some o' =>
      rw [hj] at ho
      simp only [Option.map_some, Option.some.injEq] at ho
      subst ho
      split
      · simp [struck]
      · exact hsel j o' cs b hj
  have hfin := fun u hu => fin_of_quiet H' hsel' (dummyAt m k 0 l) 0 a (fun j => by simp) (hq u hu)
  have hquiet : ∀ (i : Nat) (o : Oper), i ≠ m → i ≠ k → l.toArray[i]? = some o → ∀ u, Below w.heap.size w u → ∃ v, YieldsIn P l.toArray (above u) o v af ∧ ∀ s, o.dst = some s → s < af.tmps.size → af.tmps[s]? = some v := by
    intro i o him hik ho u hu
    have ho' : (dummyAt m k 0 l).toArray[i]? = some o := by
      rw [get', ho]
      simp [him, hik]
    obtain ⟨v, hy, hv⟩ := (hfin u hu).1 i o (Nat.zero_le _) ho'
    refine ⟨v, ?_, hv⟩
    unfold YieldsIn at *
    rwa [hwt] at hy
  obtain ⟨_, f2, f3, f4⟩ := hfin w (Below.refl _ _)
  refine wp_region_any hm (newBlock_any (m := m) (k := k) (d := d) (z := z) (z' := z') (af := af) ⟨H, hsel, hquiet, ?_, ?_, ?_, n1⟩ h _ _ _ _ (by simp) ?_ (.inl ⟨?_, ?_, ⟨f2, f3, fun s hs => ?_⟩, (Below.refl _ w).drew⟩))
  · intro i o hik ho
    have := n4 i (lt_of_some ho)
    simpa [hik, ho] using this
  · cases hj : l.toArray[m]? with
    | none => rw [hj] at n2; cases n2
    | some o =>
      rw [hj] at n2
      simp only [Bool.and_eq_true, beq_iff_eq, Option.isNone_iff_eq_none] at n2
      exact ⟨o, rfl, n2.1, n2.2, hal o (by simpa using hj)⟩
  · cases hj : l.toArray[k]? with
    | none => rw [hj] at n3; cases n3
    | some o =>
      rw [hj] at n3
      simp only [Bool.and_eq_true, Option.isNone_iff_eq_none, List.contains_iff_mem] at n3
      exact ⟨o, rfl, n3.1.1, n3.1.2, n3.2, hst o (by simpa using hj)⟩
  · unfold unlisted
    exact Nat.le_trans (List.length_filter_le _ _) (by simp)
  · have hlt : m < l.toArray.size := by
      rcases Nat.lt_or_ge m l.toArray.size with h | h
      · exact h
      · rw [Array.getElem?_eq_none h] at n2; cases n2
    simp only [List.size_toArray] at hlt
    simp [hlt]
  · have hlt : k < l.toArray.size := by
      rcases Nat.lt_or_ge k l.toArray.size with h | h
      · exact h
      · rw [Array.getElem?_eq_none h] at n3; cases n3
    simp only [List.size_toArray] at hlt
    simp [hlt]
  · refine f4 s fun j oj _ hj hd => ?_
    rw [get'] at hj
    cases hjj : l.toArray[j]? with
    | none => rw [hjj] at hj; cases hj
    | some o' =>
      rw [hjj] at hj
      simp only [Option.map_some, Option.some.injEq] at hj
      have hd' : o'.dst = some s := by rw [← hd, ← hj]; split <;> rfl
      have := hs j o' hjj hd'
      have hlt := lt_of_some hjj
      simp only [List.size_toArray] at hlt
      simp [hlt] at this
end
end Go.Proofs

set_option linter.unusedSimpArgs false
set_option linter.unusedVariables false
namespace Go.Proofs
open Go.RowKit
theorem above_grew (u : World) : above u = fun w' => ∃ x : Grew u, w' = x.val := by
  funext w'
  exact propext ⟨fun h => ⟨⟨w', h⟩, rfl⟩, fun ⟨x, hx⟩ => by subst hx; exact x.ok⟩
/-- A drawn region in a call that began in 'w0': quiet operations, one new block, one store into it. -/
theorem region_store {P : Program} {id : Nat} {Q : Exit → Act → World → Prop} {a : Act} {w : World} {l : List Oper} (w0 : World) (m k d : Nat) (z z' : Obj) (af : Act) (hm : P.follows .mixedOrders = true)
    (hB : slotsOk l.toArray = true) (hB' : slotsOk (dummyAt m k 0 l).toArray = true) (hS : Region.noSelect l.toArray = true) (hN : newB l.toArray m k d = true) (hw : Below w0.heap.size w0 w)
    (hq : ∀ u, Below w.heap.size w u → (∀ (x : Grew u) (b o : Nat), b < u.heap.size → x.val.cell? ⟨b, o, none⟩ = u.cell? ⟨b, o, none⟩) → Hid (∀ x : Grew u, Below w0.heap.size w0 x.val) → Hid (∀ x : Grew u, Below w.heap.size w x.val) →
      wpQuiet P (dummyAt m k 0 l).toArray (fun w' => ∃ x : Grew u, w' = x.val) (fun a' => a' = af) (dummyAt m k 0 l) a)
    (hal : ∀ o, l[m]? = some o → ∀ (a : Act) (x : World), (execOp a.eval o).run P x = .ok (.value (.pointer (some ⟨x.heap.size, 0, none⟩))) (x.alloc z))
    (hst : ∀ o, l[k]? = some o → ∀ (B : Nat) (x : World), Below w.heap.size w x → w.heap.size ≤ B → x.heap[B]? = some z →
      ∃ x', (execOp (af.put (some d) (.pointer (some ⟨B, 0, none⟩))).eval o).run P x = .ok .skip x' ∧ Below w.heap.size w x' ∧ x'.heap[B]? = some z')
    (h : ∀ (B : Nat) (x : World), w.heap.size ≤ B → Below w.heap.size w x → Below w0.heap.size w0 x → x.heap[B]? = some z' → Q .normal (af.put (some d) (.pointer (some ⟨B, 0, none⟩))) x) :
    (Code.region id l.toArray true).wp P Q a w :=
  region_new m k d z z' af hm hB hB' hS hN hal (fun u hu => by
    rw [above_grew]
    exact hq u hu (fun x => x.cell) (fun x => via hw (via hu x.ok)) (fun x => via hu x.ok)) hst (fun B x h1 h2 h3 => h B x h1 h2 (via hw h2) h3)
theorem below_in {w x : World} {a : Addr} (h : Below w.heap.size w x) (hB : w.heap.size ≤ a.block) (u : Value) : Below w.heap.size w (x.setCell a u) := h.setCell hB u
end Go.Proofs

set_option linter.unusedSimpArgs false
set_option linter.unusedVariables false
namespace Go.Proofs
open Go.RowKit
section
variable {P : Program} {ops : Array Oper}
/-- A region in a call that began in 'w': quiet operations; a call 'c' that hands back memory of its own (its value in slot 'dc', of which 'Pr' is known); a call 'q' that takes it and yields 'vq'; one new block (operation 'm', slot 'd'), and one store into it ('k'), in whatever order. -/
structure CopyCall (P : Program) (ops : Array Oper) (w : World) (c q m k dc dq d : Nat) (Pr : Value → World → Prop) (vq : Value) (z z' : Obj) (af : Act) : Prop where
  slots : SlotsOk ops
  sel : ∀ (j : Nat) (o : Oper) cs b, ops[j]? = some o → o.op ≠ .select cs b
  quiet : ∀ (i : Nat) (o : Oper), i ≠ c → i ≠ q → i ≠ m → i ≠ k → ops[i]? = some o → ∀ u, Below w.heap.size w u → ∃ v, YieldsIn P ops (above u) o v af ∧ ∀ s, o.dst = some s → s < af.tmps.size → af.tmps[s]? = some v
  apart : ∀ (i : Nat) (o : Oper), ops[i]? = some o → (i ≠ k → d ∉ o.looksAt ops) ∧ (i ≠ q → dc ∉ o.looksAt ops)
  copy : ∀ o, ops[c]? = some o → o.dst = some dc ∧ o.guard = none ∧ ∀ x, Below w.heap.size w x → ∃ f args, (execOp af.eval o).run P x = .ok (.enter f args) x ∧ Calls P f args x fun e x' => ∃ V, e = .returned V ∧ Pr V x' ∧ Below x.heap.size x x'
  call : ∀ o, ops[q]? = some o → o.dst = some dq ∧ o.guard = none ∧ dc ∈ o.looksAt ops ∧ ∀ V x, Below w.heap.size w x → Pr V x → ∃ f args, (execOp (af.put (some dc) V).eval o).run P x = .ok (.enter f args) x ∧ Calls P f args x fun e x' => e = .returned vq ∧ Below x.heap.size x x'
  has : ∃ o, ops[c]? = some o
  res : dq < af.tmps.size → af.tmps[dq]? = some vq
  stable : ∀ V x x', Pr V x → Below x.heap.size x x' → Pr V x'
  alloc : ∃ o, ops[m]? = some o ∧ o.dst = some d ∧ o.guard = none ∧ ∀ (a : Act) (x : World), (execOp a.eval o).run P x = .ok (.value (.pointer (some ⟨x.heap.size, 0, none⟩))) (x.alloc z)
  store : ∃ o, ops[k]? = some o ∧ o.dst = none ∧ o.guard = none ∧ d ∈ o.looksAt ops ∧ (∃ e ∈ o.after, Region.binds .any e = true ∧ e.on = q) ∧ ∀ (B : Nat) (x : World), Below w.heap.size w x → w.heap.size ≤ B → x.heap[B]? = some z →
    ∃ x', (execOp (af.put (some d) (.pointer (some ⟨B, 0, none⟩))).eval o).run P x = .ok .skip x' ∧ Below w.heap.size w x' ∧ x'.heap[B]? = some z'
  ne : m ≠ k ∧ c ≠ q ∧ c ≠ m ∧ c ≠ k ∧ q ≠ m ∧ q ≠ k ∧ d ≠ dc ∧ dq ≠ d ∧ dq ≠ dc

def frameOf (af : Act) (d dc : Nat) (V1 V2 : Value) : Act := (af.put (some d) V1).put (some dc) V2
theorem frameOf_get {af : Act} {d dc : Nat} {V1 V2 : Value} {s : Nat} (h1 : s ≠ d) (h2 : s ≠ dc) : (frameOf af d dc V1 V2).tmps[s]? = af.tmps[s]? := by
  unfold frameOf
  rw [put_get (fun e => h2 (Option.some.inj e).symm), put_get (fun e => h1 (Option.some.inj e).symm)]
theorem frameOf_size {af : Act} {d dc : Nat} {V1 V2 : Value} : (frameOf af d dc V1 V2).tmps.size = af.tmps.size := by unfold frameOf; rw [put_size, put_size]
/-- What is known at a state of the region. -/
def Mid (ops : Array Oper) (w : World) (c q m k d dc : Nat) (Pr : Value → World → Prop) (z z' : Obj) (af : Act) (listed : Array Bool) (a : Act) (x : World) : Prop :=
  Below w.heap.size w x ∧ (listed.getD m true = false → listed.getD k true = false) ∧ ∃ V1 V2, Agree ops listed a (frameOf af d dc V1 V2) ∧
    (listed.getD m true = true → ∃ B, V1 = .pointer (some ⟨B, 0, none⟩) ∧ w.heap.size ≤ B ∧ x.heap[B]? = some (if listed.getD k true = true then z' else z)) ∧
    (listed.getD c true = true → listed.getD q true = false → Pr V2 x)
theorem agree_new (H : SlotsOk ops) {listed : Array Bool} {a b b' : Act} (h : Agree ops listed a b) {i : Nat} {o : Oper} (hi : ops[i]? = some o) {s0 : Nat} (hd : o.dst = some s0) {v : Value} (hs : b.tmps.size = b'.tmps.size) (hf : b.defers = b'.defers)
    (he : ∀ s, s ≠ s0 → b'.tmps[s]? = b.tmps[s]?) (hv : s0 < b'.tmps.size → b'.tmps[s0]? = some v) : Agree ops (listed.setIfInBounds i true) (a.put (some s0) v) b' := by
  refine ⟨by rw [put_size, ← hs]; exact h.1, by rw [put_defers, ← hf]; exact h.2.1, fun s hs' => ?_⟩
  by_cases hsd : s = s0
  · subst hsd
    by_cases hlt : s < b'.tmps.size
    · rw [put_at (by rw [h.1, hs]; exact hlt), hv hlt]
    · rw [put_out (by rw [h.1, hs]; exact hlt), Array.getElem?_eq_none (by omega)]
  · rw [put_get (fun e => hsd (Option.some.inj e).symm), he s hsd]
    refine h.2.2 s fun j oj hj hdj => ?_
    have hij : i ≠ j := by
      rintro rfl
      obtain rfl : o = oj := Option.some.inj (hi.symm.trans hj)
      rw [hd] at hdj
      exact hsd (Option.some.inj hdj).symm
    have := hs' j oj hj hdj
    rwa [getD_set_ne true hij] at this
theorem dep_up (H : SlotsOk ops) {listed : Array Bool} {i j s : Nat} {o oj : Oper} (hi : ops[i]? = some o) (hr : i ∈ Region.ready .any ops listed) (hs : s ∈ o.looksAt ops) (hj : ops[j]? = some oj) (hd : oj.dst = some s) : listed.getD j true = true := by
  obtain ⟨_, e, he, hb, hon⟩ := H.look i o s j oj hi hs hj hd
  obtain ⟨_, o', ho', hall⟩ := mem_ready.1 hr
  obtain rfl : o = o' := Option.some.inj (hi.symm.trans ho')
  have := hall e he hb
  rw [hon] at this
  exact getD_tt this
theorem set_self {listed : Array Bool} (j : Nat) : (listed.setIfInBounds j true).getD j true = true := by
  simp only [Array.getD_eq_getD_getElem?, Array.getElem?_setIfInBounds]
  by_cases hs : j < listed.size <;> simp [hs]

theorem copyCall_step {Q : Exit → Act → World → Prop} {w : World} {c q m k dc dq d : Nat} {Pr : Value → World → Prop} {vq : Value} {z z' : Obj} {af : Act} (N : CopyCall P ops w c q m k dc dq d Pr vq z z' af) {listed : Array Bool} {a : Act} {x : World} {i : Nat} (hi : i ∈ Region.ready .any ops listed)
    (h : Mid ops w c q m k d dc Pr z z' af listed a x) : wpOp P ops Q i (fun a' x' => Mid ops w c q m k d dc Pr z z' af (listed.setIfInBounds i true) a' x') a x := by
  obtain ⟨hiu, o, ho, hall⟩ := mem_ready.1 hi
  obtain ⟨n1, n2, n3, n4, n5, n6, n7, n8, n9⟩ := N.ne
  obtain ⟨hb, hmk, V1, V2, hag, hm, hc⟩ := h
  have hlk := agree_look N.slots hag ho hi
  have hap := N.apart i o ho
  obtain ⟨om, m1, m2, m3, m4⟩ := N.alloc
  obtain ⟨oc, hoc⟩ := N.has
  obtain ⟨c2, c3, c4⟩ := N.copy oc hoc
  have hwant : ∀ o' : Oper, o'.guard = none → Region.wanted o' (yielded ops a.tmps) = true := fun o' h => by unfold Region.wanted; rw [h]
  by_cases him : i = m
  · subst him
    obtain rfl : o = om := Option.some.inj (ho.symm.trans m1)
    have hku := hmk hiu
    unfold wpOp
    simp only [ho]
    rw [if_pos (hwant o m3)]
    refine .inl ?_
    unfold Oper.wp
    rw [m4 a x, Oper.upon_value, m2]
    refine ⟨via_alloc hb _, (fun h => by rw [set_self] at h; cases h), .pointer (some ⟨x.heap.size, 0, none⟩), V2, ?_, fun _ => ⟨_, rfl, hb.size, ?_⟩, fun h h2 => ?_⟩
    · refine agree_new N.slots hag ho m2 (by rw [frameOf_size, frameOf_size]) rfl (fun s hs => ?_) (fun hlt => ?_)
      · unfold frameOf
        by_cases hsc : s = dc
        · subst hsc
          by_cases hlt : s < af.tmps.size
          · rw [put_at (by rw [put_size]; exact hlt), put_at (by rw [put_size]; exact hlt)]
          · rw [put_out (by rw [put_size]; exact hlt), put_out (by rw [put_size]; exact hlt)]
        · rw [put_get (fun e => hsc (Option.some.inj e).symm), put_get (fun e => hsc (Option.some.inj e).symm), put_get (fun e => hs (Option.some.inj e).symm), put_get (fun e => hs (Option.some.inj e).symm)]
      · rw [frameOf_size] at hlt
        unfold frameOf
        rw [put_get (fun e => n7 (Option.some.inj e).symm), put_at hlt]
    · rw [getD_set_ne true n1, hku]
      exact bk_new _ _ rfl
    · rw [getD_set_ne true (Ne.symm n3)] at h
      rw [getD_set_ne true (Ne.symm n5)] at h2
      exact N.stable _ _ _ (hc h h2) (new_below _ _)
  by_cases hic : i = c
  · subst hic
    obtain rfl : o = oc := Option.some.inj (ho.symm.trans hoc)
    obtain ⟨f, args, r1, r2⟩ := c4 x hb
    unfold wpOp
    simp only [ho]
    rw [if_pos (hwant o c3)]
    refine .inl ?_
    unfold Oper.wp
    have he : execOp a.eval o = execOp af.eval o := exec_same (N.sel i o · · ho) fun s hs => by
      rw [hlk s hs]
      refine frameOf_get ?_ ?_
      · rintro rfl; exact hap.1 n4 hs
      · rintro rfl; exact hap.2 n2 hs
    rw [he, r1, Oper.upon_enter]
    refine r2.mono ?_
    rintro e x' ⟨V, rfl, hp, hx'⟩
    rw [c2]
    refine ⟨via hb hx', fun h => ?_, V1, V, ?_, fun h => ?_, fun _ _ => hp⟩
    · rw [getD_set_ne true n3] at h
      rw [getD_set_ne true n4]
      exact hmk h
    · refine agree_new N.slots hag ho c2 (by rw [frameOf_size, frameOf_size]) rfl (fun s hs => ?_) (fun hlt => ?_)
      · unfold frameOf
        rw [put_get (fun e => hs (Option.some.inj e).symm), put_get (fun e => hs (Option.some.inj e).symm)]
      · rw [frameOf_size] at hlt
        unfold frameOf
        rw [put_at (by rw [put_size]; exact hlt)]
    · rw [getD_set_ne true n3] at h
      obtain ⟨B, e1, e2, e3⟩ := hm h
      exact ⟨B, e1, e2, by rw [getD_set_ne true n4]; exact bk_keep hx' e3⟩
  by_cases hiq : i = q
  · subst hiq
    obtain ⟨q2, q3, q4, q5⟩ := N.call o ho
    have hcl : listed.getD c true = true := dep_up N.slots ho hi q4 hoc c2
    obtain ⟨f, args, r1, r2⟩ := q5 V2 x hb (hc hcl hiu)
    unfold wpOp
    simp only [ho]
    rw [if_pos (hwant o q3)]
    refine .inl ?_
    unfold Oper.wp
    have he : execOp a.eval o = execOp (af.put (some dc) V2).eval o := exec_same (N.sel i o · · ho) fun s hs => by
      rw [hlk s hs]
      unfold frameOf
      by_cases hsc : s = dc
      · subst hsc
        by_cases hlt : s < af.tmps.size
        · rw [put_at (by rw [put_size]; exact hlt), put_at hlt]
        · rw [put_out (by rw [put_size]; exact hlt), put_out hlt]
      · rw [put_get (fun e => hsc (Option.some.inj e).symm), put_get (fun e => hsc (Option.some.inj e).symm), put_get (fun e => hap.1 n6 (by rw [Option.some.inj e]; exact hs))]
    rw [he, r1, Oper.upon_enter]
    refine r2.mono ?_
    rintro e x' ⟨rfl, hx'⟩
    rw [q2]
    refine ⟨via hb hx', fun h => ?_, V1, V2, ?_, fun h => ?_, fun _ h => by rw [set_self] at h; cases h⟩
    · rw [getD_set_ne true n5] at h
      rw [getD_set_ne true n6]
      exact hmk h
    · refine agree_new N.slots hag ho q2 rfl rfl (fun s hs => rfl) (fun hlt => ?_)
      rw [frameOf_size] at hlt
      rw [frameOf_get n8 n9]
      exact N.res hlt
    · rw [getD_set_ne true n5] at h
      obtain ⟨B, e1, e2, e3⟩ := hm h
      exact ⟨B, e1, e2, by rw [getD_set_ne true n6]; exact bk_keep hx' e3⟩
  by_cases hik : i = k
  · subst hik
    obtain ⟨ok, k1, k2, k3, k4, ⟨ek, ke1, ke2, ke3⟩, k5⟩ := N.store
    obtain rfl : o = ok := Option.some.inj (ho.symm.trans k1)
    have hml : listed.getD m true = true := dep_up N.slots ho hi k4 m1 m2
    have hql : listed.getD q true = true := by
      have := hall ek ke1 ke2
      rw [ke3] at this
      exact getD_tt this
    obtain ⟨B, e1, e2, e3⟩ := hm hml
    rw [hiu] at e3
    obtain ⟨x', r1, r2, r3⟩ := k5 B x hb e2 e3
    unfold wpOp
    simp only [ho]
    rw [if_pos (hwant o k3)]
    refine .inl ?_
    unfold Oper.wp
    have he : execOp a.eval o = execOp (af.put (some d) (.pointer (some ⟨B, 0, none⟩))).eval o := exec_same (N.sel i o · · ho) fun s hs => by
      rw [hlk s hs]
      unfold frameOf
      rw [put_get (fun e => hap.2 (Ne.symm n6) (by rw [Option.some.inj e]; exact hs)), e1]
    rw [he, r1, Oper.upon_skip, k2]
    refine ⟨r2, (fun h => by rw [getD_set_ne true (Ne.symm n1)] at h; rw [hml] at h; cases h), V1, V2, ?_, fun _ => ⟨B, e1, e2, by rw [set_self]; exact r3⟩, fun _ h => by rw [getD_set_ne true (Ne.symm n6)] at h; rw [hql] at h; cases h⟩
    have := agree_put N.slots hag ho (v := undef) (fun s hs => by rw [k2] at hs; cases hs)
    rwa [k2] at this
  · obtain ⟨v, hy, hv⟩ := N.quiet i o hic hiq him hik ho x hb
    have hnd : ∀ s ∈ o.looksAt ops, (frameOf af d dc V1 V2).tmps[s]? = af.tmps[s]? := fun s hs => by
      refine frameOf_get ?_ ?_
      · rintro rfl; exact hap.1 hik hs
      · rintro rfl; exact hap.2 hiq hs
    have hy' := yields_same (N.sel i o · · ho) (fun s hs => ((hlk s hs).trans (hnd s hs)).symm) hy
    refine wp_yields ho hy' (Below.refl _ _) fun x' hx' => ⟨via hb hx', fun h => ?_, V1, V2, agree_put N.slots hag ho (fun s hs hlt => ?_), fun h => ?_, fun h1 h2 => ?_⟩
    · rw [getD_set_ne true him] at h
      rw [getD_set_ne true hik]
      exact hmk h
    · rw [frameOf_get ?_ ?_]
      · exact hv s hs (by rwa [frameOf_size] at hlt)
      · rintro rfl; exact him (N.slots.dst m i om o s m1 ho m2 hs)
      · rintro rfl; exact hic (N.slots.dst c i oc o s hoc ho c2 hs)
    · rw [getD_set_ne true him] at h
      obtain ⟨B, e1, e2, e3⟩ := hm h
      exact ⟨B, e1, e2, by rw [getD_set_ne true hik]; exact bk_keep hx' e3⟩
    · rw [getD_set_ne true hic] at h1
      rw [getD_set_ne true hiq] at h2
      exact N.stable _ _ _ (hc h1 h2) hx'
end
end Go.Proofs
