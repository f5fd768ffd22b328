import Derived.Test.YtmnjoamkaapjcaaGreatMg19
set_option linter.unusedSimpArgs false
set_option linter.unusedVariables false
namespace Go.Proofs
open Go.RowKit
section
variable {P : Program} {ops : Array Oper}
/-- The two frames agree on the slots whose writers have all come up. -/
def Agree (ops : Array Oper) (listed : Array Bool) (a b : Act) : Prop :=
  a.tmps.size = b.tmps.size ∧ a.defers = b.defers ∧ ∀ s : Nat, (∀ (j : Nat) (oj : Oper), ops[j]? = some oj → oj.dst = some s → listed.getD j true = true) → a.tmps[s]? = b.tmps[s]?
theorem getD_tt {listed : Array Bool} {j : Nat} (h : listed.getD j false = true) : listed.getD j true = true := by
  rcases Nat.lt_or_ge j listed.size with h' | h'
  · simp [h'] at h ⊢; exact h
  · simp [Array.getElem?_eq_none h'] at h
theorem agree_look (H : SlotsOk ops) {listed : Array Bool} {a b : Act} (h : Agree ops listed a b) {i : Nat} {o : Oper} (hi : ops[i]? = some o) (hr : i ∈ Region.ready .any ops listed) : ∀ s ∈ o.looksAt ops, a.tmps[s]? = b.tmps[s]? := fun s hs =>
  h.2.2 s fun j oj hj hd => by
    obtain ⟨_, e, he, hb, hon⟩ := H.look i o s j oj hi hs hj hd
    obtain ⟨_, o', ho', hall⟩ := mem_ready.1 hr
    obtain rfl : o = o' := Option.some.inj (hi.symm.trans ho')
    have := hall e he hb
    rw [hon] at this
    exact getD_tt this
theorem agree_put (H : SlotsOk ops) {listed : Array Bool} {a b : Act} (h : Agree ops listed a b) {i : Nat} {o : Oper} (hi : ops[i]? = some o) {v : Value} (hv : ∀ s, o.dst = some s → s < b.tmps.size → b.tmps[s]? = some v) : Agree ops (listed.setIfInBounds i true) (a.put o.dst v) b := by
  refine ⟨by rw [put_size]; exact h.1, by rw [put_defers]; exact h.2.1, fun s hs => ?_⟩
  by_cases hd : o.dst = some s
  · rw [hd]
    by_cases hlt : s < b.tmps.size
    · rw [put_at (by rw [h.1]; exact hlt), hv s hd hlt]
    · rw [put_out (by rw [h.1]; exact hlt), Array.getElem?_eq_none (by omega)]
  · rw [put_get hd]
    refine h.2.2 s fun j oj hj hdj => ?_
    have hij : i ≠ j := by
      rintro rfl
      obtain rfl : o = oj := Option.some.inj (hi.symm.trans hj)
      exact hd hdj
    have := hs j oj hj hdj
    rwa [getD_set_ne true hij] at this
def above (u : World) : World → Prop := fun x => Below u.heap.size u x

/-- A region in a call that began in 'w', of quiet operations, one new block (operation 'm', its pointer in slot 'd'), and one store into that block (operation 'k'), in whatever order. -/
structure NewBlock (P : Program) (ops : Array Oper) (w : World) (m k d : Nat) (z z' : Obj) (af : Act) : Prop where
  slots : SlotsOk ops
  sel : ∀ (j : Nat) (o : Oper) cs b, ops[j]? = some o → o.op ≠ .select cs b
  quiet : ∀ (i : Nat) (o : Oper), i ≠ m → i ≠ k → ops[i]? = some o → ∀ u, Below w.heap.size w u → ∃ v, YieldsIn P ops (above u) o v af ∧ ∀ s, o.dst = some s → s < af.tmps.size → af.tmps[s]? = some v
  apart : ∀ (i : Nat) (o : Oper), i ≠ k → ops[i]? = some o → d ∉ o.looksAt ops
  alloc : ∃ o, ops[m]? = some o ∧ o.dst = some d ∧ o.guard = none ∧ ∀ (a : Act) (x : World), (execOp a.eval o).run P x = .ok (.value (.pointer (some ⟨x.heap.size, 0, none⟩))) (x.alloc z)
  store : ∃ o, ops[k]? = some o ∧ o.dst = none ∧ o.guard = none ∧ d ∈ o.looksAt ops ∧ ∀ (B : Nat) (x : World), Below w.heap.size w x → w.heap.size ≤ B → x.heap[B]? = some z →
    ∃ x', (execOp (af.put (some d) (.pointer (some ⟨B, 0, none⟩))).eval o).run P x = .ok .skip x' ∧ Below w.heap.size w x' ∧ x'.heap[B]? = some z'
  ne : m ≠ k

def Before (ops : Array Oper) (w : World) (m k : Nat) (af : Act) (listed : Array Bool) (a : Act) (x : World) : Prop :=
  listed.getD m true = false ∧ listed.getD k true = false ∧ Agree ops listed a af ∧ Below w.heap.size w x
def Behind (ops : Array Oper) (w : World) (m k d : Nat) (z z' : Obj) (af : Act) (listed : Array Bool) (a : Act) (x : World) : Prop :=
  listed.getD m true = true ∧ ∃ B, w.heap.size ≤ B ∧ Agree ops listed a (af.put (some d) (.pointer (some ⟨B, 0, none⟩))) ∧ Below w.heap.size w x ∧ x.heap[B]? = some (if listed.getD k true = true then z' else z)

theorem wp_yields {C : World → Prop} {Q : Exit → Act → World → Prop} {i : Nat} {o : Oper} {v : Value} {a : Act} {x : World} {K : Act → World → Prop} (hi : ops[i]? = some o) (hy : YieldsIn P ops C o v a) (hC : C x) (h : ∀ x', C x' → K (a.put o.dst v) x') : wpOp P ops Q i K a x :=
  wpOp_of_qOp (K := fun a' => a' = a.put o.dst v) hC (fun a' w' hw' he => by subst he; exact h w' hw') (hy.qOp hi rfl)

theorem newBlock_step {Q : Exit → Act → World → Prop} {w : World} {m k d : Nat} {z z' : Obj} {af : Act} (N : NewBlock P ops w m k d z z' af) {listed : Array Bool} {a : Act} {x : World} {i : Nat} (hi : i ∈ Region.ready .any ops listed)
    (h : Before ops w m k af listed a x ∨ Behind ops w m k d z z' af listed a x) :
    wpOp P ops Q i (fun a' x' => Before ops w m k af (listed.setIfInBounds i true) a' x' ∨ Behind ops w m k d z z' af (listed.setIfInBounds i true) a' x') a x := by
  obtain ⟨hiu, o, ho, hall⟩ := mem_ready.1 hi
  obtain ⟨om, hm1, hm2, hm3, hm4⟩ := N.alloc
  obtain ⟨ok, hk1, hk2, hk3, hk4, hk5⟩ := N.store
  have hself : ∀ j : Nat, (listed.setIfInBounds j true).getD j true = true := fun j => by
    simp only [Array.getD_eq_getD_getElem?, Array.getElem?_setIfInBounds]
    by_cases hs : j < listed.size <;> simp [hs]
  by_cases him : i = m
  · subst him
    obtain rfl : o = om := Option.some.inj (ho.symm.trans hm1)
    rcases h with ⟨h1, h2, h3, h4⟩ | ⟨h1, _⟩
    · unfold wpOp
      simp only [ho]
      have hw : Region.wanted o (yielded ops a.tmps) = true := by unfold Region.wanted; rw [hm3]
      rw [if_pos hw]
      refine .inl ?_
      unfold Oper.wp
      rw [hm4 a x, Oper.upon_value]
      refine .inr ⟨hself _, x.heap.size, h4.size, ?_, via_alloc h4 _, ?_⟩
      · have h3' : Agree ops listed a af := h3
        refine ⟨by rw [put_size, put_size]; exact h3.1, by rw [put_defers, put_defers]; exact h3.2.1, fun s hs => ?_⟩
        by_cases hsd : s = d
        · subst hsd
          rw [hm2]
          by_cases hlt : s < a.tmps.size
          · rw [put_at hlt, put_at (by rw [← h3.1]; exact hlt)]
          · rw [put_out hlt, put_out (by rw [← h3.1]; exact hlt)]
        · rw [put_get (by rw [hm2]; intro e; exact hsd (Option.some.inj e).symm), put_get (by intro e; exact hsd (Option.some.inj e).symm)]
          refine h3.2.2 s fun j oj hj hdj => ?_
          have hij : i ≠ j := by
            rintro rfl
            obtain rfl : o = oj := Option.some.inj (ho.symm.trans hj)
            rw [hm2] at hdj
            exact hsd (Option.some.inj hdj).symm
          have := hs j oj hj hdj
          rwa [getD_set_ne true hij] at this
      · rw [getD_set_ne true N.ne, h2]
        exact bk_new _ _ rfl
    · rw [h1] at hiu; cases hiu
  by_cases hik : i = k
  · subst hik
    obtain rfl : o = ok := Option.some.inj (ho.symm.trans hk1)
    have hml : listed.getD m true = true := by
      obtain ⟨_, e, he, hb, hon⟩ := N.slots.look i o d m om ho hk4 hm1 hm2
      have := hall e he hb
      rw [hon] at this
      exact getD_tt this
    rcases h with ⟨h1, _⟩ | ⟨h1, B, h2, h3, h4, h5⟩
    · rw [hml] at h1; cases h1
    · rw [hiu] at h5
      obtain ⟨x', r1, r2, r3⟩ := hk5 B x h4 h2 h5
      unfold wpOp
      simp only [ho]
      have hw : Region.wanted o (yielded ops a.tmps) = true := by unfold Region.wanted; rw [hk3]
      rw [if_pos hw]
      refine .inl ?_
      unfold Oper.wp
      rw [exec_same (N.sel i o · · ho) (agree_look N.slots h3 ho hi), r1, Oper.upon_skip]
      refine .inr ⟨by rw [getD_set_ne true him]; exact hml, B, h2, ?_, r2, ?_⟩
      · exact agree_put N.slots h3 ho (fun s hs => by rw [hk2] at hs; cases hs)
      · rw [hself]; exact r3
  · rcases h with ⟨h1, h2, h3, h4⟩ | ⟨h1, B, h2, h3, h4, h5⟩
    · obtain ⟨v, hy, hv⟩ := N.quiet i o him hik ho x h4
      have hy' := yields_same (N.sel i o · · ho) (fun s hs => (agree_look N.slots h3 ho hi s hs).symm) hy
      refine wp_yields ho hy' (Below.refl _ _) fun x' hx' => .inl ⟨by rw [getD_set_ne true him]; exact h1, by rw [getD_set_ne true hik]; exact h2, agree_put N.slots h3 ho hv, via h4 hx'⟩
    · obtain ⟨v, hy, hv⟩ := N.quiet i o him hik ho x h4
      have hap := N.apart i o hik ho
      have hy' := yields_same (N.sel i o · · ho) (fun s hs => ((agree_look N.slots h3 ho hi s hs).trans (put_get (fun e => hap (by rw [Option.some.inj e]; exact hs)))).symm) hy
      refine wp_yields ho hy' (Below.refl _ _) fun x' hx' => .inr ⟨by rw [getD_set_ne true him]; exact h1, B, h2, agree_put N.slots h3 ho (fun s hs hlt => ?_), via h4 hx', ?_⟩
      · have hsd : s ≠ d := by
          rintro rfl
          exact him (N.slots.dst m i om o s hm1 ho hm2 hs)
        rw [put_get (by intro e; exact hsd (Option.some.inj e).symm)]
        exact hv s hs (by rwa [put_size] at hlt)
      · rw [getD_set_ne true hik]
        exact bk_keep hx' h5

theorem all_up (H : SlotsOk ops) {listed : Array Bool} (hz : listed.size = ops.size) (h : Region.ready .any ops listed = []) : ∀ j, j < ops.size → listed.getD j true = true := by
  intro j
  induction j using Nat.strongRecOn with
  | _ j ih =>
    intro hj
    cases hu : listed.getD j true with
    | true => rfl
    | false =>
      exfalso
      have : j ∈ Region.ready .any ops listed := mem_ready.2 ⟨hu, ops[j], Array.getElem?_eq_getElem hj, fun e he hb => by
        have h1 := H.after j _ e (Array.getElem?_eq_getElem hj) he hb
        have h2 := ih e.on h1 (by omega)
        have h3 : e.on < listed.size := by omega
        simp [h3] at h2 ⊢
        exact h2⟩
      rw [h] at this; cases this
theorem agree_all {listed : Array Bool} {a b : Act} (h : Agree ops listed a b) (hu : ∀ j, j < ops.size → listed.getD j true = true) : a = b :=
  act_ext h.2.1 fun s => h.2.2 s fun j oj hj _ => hu j (lt_of_some hj)

theorem newBlock_any {Q : Exit → Act → World → Prop} {w : World} {m k d : Nat} {z z' : Obj} {af : Act} (N : NewBlock P ops w m k d z z' af)
    (hQ : ∀ (B : Nat) (x : World), w.heap.size ≤ B → Below w.heap.size w x → x.heap[B]? = some z' → Q .normal (af.put (some d) (.pointer (some ⟨B, 0, none⟩))) x) :
    ∀ (f : Nat) (listed : Array Bool) (a : Act) (x : World), listed.size = ops.size → unlisted ops.size listed ≤ f → (Before ops w m k af listed a x ∨ Behind ops w m k d z z' af listed a x) → wpAny P .any ops Q f listed a x := by
  have hend : ∀ (listed : Array Bool) (a : Act) (x : World), listed.size = ops.size → (Before ops w m k af listed a x ∨ Behind ops w m k d z z' af listed a x) → Region.ready .any ops listed = [] → Q .normal a x := by
    intro listed a x hz h hr
    have hu := all_up N.slots hz hr
    obtain ⟨om, hm1, _⟩ := N.alloc
    obtain ⟨ok, hk1, _⟩ := N.store
    have hm := hu m (lt_of_some hm1)
    have hk := hu k (lt_of_some hk1)
    rcases h with ⟨h1, _⟩ | ⟨_, B, h2, h3, h4, h5⟩
    · rw [hm] at h1; cases h1
    · rw [hk, if_pos rfl] at h5
      rw [agree_all h3 hu]
      exact hQ B x h2 h4 h5
  intro f
  induction f with
  | zero =>
    intro listed a x hz hf h
    have hr : Region.ready .any ops listed = [] := by
      rw [List.eq_nil_iff_forall_not_mem]
      intro i hi
      obtain ⟨hiu, o, ho, _⟩ := mem_ready.1 hi
      have := unlisted_set (n := ops.size) (lt_of_some ho) hiu
      omega
    exact ⟨hr, hend listed a x hz h hr⟩
  | succ f ih =>
    intro listed a x hz hf h
    refine ⟨fun hr => hend listed a x hz h hr, fun i hi => ?_⟩
    obtain ⟨hiu, o, ho, _⟩ := mem_ready.1 hi
    have hl := unlisted_set (n := ops.size) (lt_of_some ho) hiu
    exact wpOp_mono (fun a' x' h' => ih _ a' x' (by simpa using hz) (by omega) h') (newBlock_step N hi h)

/-! The text with the two operations of memory struck. -/
def struck (o : Oper) : Oper := { o with op := .move (.const undef) }
def dummyAt (m k : Nat) : Nat → List Oper → List Oper
  | _, [] => []
  | i, o :: l => (if i == m || i == k then struck o else o) :: dummyAt m k (i + 1) l
theorem dummyAt_get (m k : Nat) : ∀ (l : List Oper) (i j : Nat), (dummyAt m k i l)[j]? = (l[j]?).map fun o => if i + j == m || i + j == k then struck o else o
  | [], i, j => by simp [dummyAt]
  | o :: l, i, 0 => by simp [dummyAt]
  | o :: l, i, j + 1 => by
    simp only [dummyAt, List.getElem?_cons_succ]
    rw [dummyAt_get m k l (i + 1) j]
    congr 2
    funext o
    rw [show i + 1 + j = i + (j + 1) by omega]
def newB (ops : Array Oper) (m k d : Nat) : Bool :=
  decide (m ≠ k) && (match ops[m]? with | some o => o.dst == some d && o.guard.isNone | none => false) &&
  (match ops[k]? with | some o => o.dst.isNone && o.guard.isNone && (o.looksAt ops).contains d | none => false) &&
  (List.range ops.size).all fun i => i == k || match ops[i]? with | some o => !(o.looksAt ops).contains d | none => true

theorem region_new {id : Nat} {Q : Exit → Act → World → Prop} {a : Act} {w : World} {l : List Oper} (m k d : Nat) (z z' : Obj) (af : Act) (hm : P.follows .mixedOrders = true)
    (hB : slotsOk l.toArray = true) (hB' : slotsOk (dummyAt m k 0 l).toArray = true) (hS : Region.noSelect l.toArray = true) (hN : newB l.toArray m k d = true)
    (hal : ∀ o, l[m]? = some o → ∀ (a : Act) (x : World), (execOp a.eval o).run P x = .ok (.value (.pointer (some ⟨x.heap.size, 0, none⟩))) (x.alloc z))
    (hq : ∀ u, Below w.heap.size w u → wpQuiet P (dummyAt m k 0 l).toArray (above u) (fun a' => a' = af) (dummyAt m k 0 l) a)
    (hst : ∀ o, l[k]? = some o → ∀ (B : Nat) (x : World), Below w.heap.size w x → w.heap.size ≤ B → x.heap[B]? = some z →
      ∃ x', (execOp (af.put (some d) (.pointer (some ⟨B, 0, none⟩))).eval o).run P x = .ok .skip x' ∧ Below w.heap.size w x' ∧ x'.heap[B]? = some z')
    (h : ∀ (B : Nat) (x : World), w.heap.size ≤ B → Below w.heap.size w x → x.heap[B]? = some z' → Q .normal (af.put (some d) (.pointer (some ⟨B, 0, none⟩))) x) :
    (Code.region id l.toArray true).wp P Q a w := by
  simp only [newB, Bool.and_eq_true, decide_eq_true_eq, List.all_eq_true, List.mem_range] at hN
  obtain ⟨⟨⟨n1, n2⟩, n3⟩, n4⟩ := hN
  have H := slotsOk_spec hB
  have H' := slotsOk_spec hB'
  have hsel := Region.noSelect_spec hS
  have get' : ∀ j : Nat, (dummyAt m k 0 l).toArray[j]? = (l.toArray[j]?).map fun o => if j == m || j == k then struck o else o := fun j => by
    have := dummyAt_get m k l 0 j
    simpa using this
  have hyd : ∀ (t : Array Value) (g : Nat), yielded (dummyAt m k 0 l).toArray t g = yielded l.toArray t g := fun t g => by
    unfold yielded
    rw [get']
    cases l.toArray[g]? with
    | none => rfl
    | some o =>
      have : (if (g == m || g == k) = true then struck o else o).dst = o.dst := by split <;> rfl
      simp only [Option.map_some, Option.bind_some, this]
  have hwt : ∀ (o : Oper) (t : Array Value), Region.wanted o (yielded (dummyAt m k 0 l).toArray t) = Region.wanted o (yielded l.toArray t) := fun o t => by
    have : yielded (dummyAt m k 0 l).toArray t = yielded l.toArray t := funext (hyd t)
    rw [this]
  have hsel' : ∀ (j : Nat) (o : Oper) cs b, (dummyAt m k 0 l).toArray[j]? = some o → o.op ≠ .select cs b := fun j o cs b ho => by
    rw [get'] at ho
    cases hj : l.toArray[j]? with
    | none => rw [hj] at ho; cases ho
    | some o' =>
      rw [hj] at ho
      simp only [Option.map_some, Option.some.injEq] at ho
      subst ho
      split
      · simp [struck]
      · exact hsel j o' cs b hj
  have hfin := fun u hu => fin_of_quiet H' hsel' (dummyAt m k 0 l) 0 a (fun j => by simp) (hq u hu)
  have hquiet : ∀ (i : Nat) (o : Oper), i ≠ m → i ≠ k → l.toArray[i]? = some o → ∀ u, Below w.heap.size w u → ∃ v, YieldsIn P l.toArray (above u) o v af ∧ ∀ s, o.dst = some s → s < af.tmps.size → af.tmps[s]? = some v := by
    intro i o him hik ho u hu
    have ho' : (dummyAt m k 0 l).toArray[i]? = some o := by
      rw [get', ho]
      simp [him, hik]
    obtain ⟨v, hy, hv⟩ := (hfin u hu).1 i o (Nat.zero_le _) ho'
    refine ⟨v, ?_, hv⟩
    unfold YieldsIn at *
    rwa [hwt] at hy
  obtain ⟨_, f2, f3, f4⟩ := hfin w (Below.refl _ _)
  refine wp_region_any hm (newBlock_any (m := m) (k := k) (d := d) (z := z) (z' := z') (af := af) ⟨H, hsel, hquiet, ?_, ?_, ?_, n1⟩ h _ _ _ _ (by simp) ?_ (.inl ⟨?_, ?_, ⟨f2, f3, fun s hs => ?_⟩, (Below.refl _ w).drew⟩))
  · intro i o hik ho
    have := n4 i (lt_of_some ho)
    simpa [hik, ho] using this
  · cases hj : l.toArray[m]? with
    | none => rw [hj] at n2; cases n2
    | some o =>
      rw [hj] at n2
      simp only [Bool.and_eq_true, beq_iff_eq, Option.isNone_iff_eq_none] at n2
      exact ⟨o, rfl, n2.1, n2.2, hal o (by simpa using hj)⟩
  · cases hj : l.toArray[k]? with
    | none => rw [hj] at n3; cases n3
    | some o =>
      rw [hj] at n3
      simp only [Bool.and_eq_true, Option.isNone_iff_eq_none, List.contains_iff_mem] at n3
      exact ⟨o, rfl, n3.1.1, n3.1.2, n3.2, hst o (by simpa using hj)⟩
  · unfold unlisted
    exact Nat.le_trans (List.length_filter_le _ _) (by simp)
  · have hlt : m < l.toArray.size := by
      rcases Nat.lt_or_ge m l.toArray.size with h | h
      · exact h
      · rw [Array.getElem?_eq_none h] at n2; cases n2
    simp only [List.size_toArray] at hlt
    simp [hlt]
  · have hlt : k < l.toArray.size := by
      rcases Nat.lt_or_ge k l.toArray.size with h | h
      · exact h
      · rw [Array.getElem?_eq_none h] at n3; cases n3
    simp only [List.size_toArray] at hlt
    simp [hlt]
  · refine f4 s fun j oj _ hj hd => ?_
    rw [get'] at hj
    cases hjj : l.toArray[j]? with
    | none => rw [hjj] at hj; cases hj
    | some o' =>
      rw [hjj] at hj
      simp only [Option.map_some, Option.some.injEq] at hj
      have hd' : o'.dst = some s := by rw [← hd, ← hj]; split <;> rfl
      have := hs j o' hjj hd'
      have hlt := lt_of_some hjj
      simp only [List.size_toArray] at hlt
      simp [hlt] at this
end
end Go.Proofs

set_option linter.unusedSimpArgs false
set_option linter.unusedVariables false
namespace Go.Proofs
open Go.RowKit
section
variable {P : Program}

/-! A region that draws its order, by rely and guarantee: 'J' holds of the world throughout, 'G' is what each operation does to the world at most, 'F s v x' says of slot 's' what its value is worth in a world. No edge is counted: what an operation looks at has been yielded before. -/
def putAll (vs : Nat → Value) : List Oper → Act → Act
  | [], a => a
  | o :: l, a => putAll vs l (match o.dst with | some s => a.put (some s) (vs s) | none => a)
theorem putAll_size (vs : Nat → Value) : ∀ (l : List Oper) (a : Act), (putAll vs l a).tmps.size = a.tmps.size
  | [], a => rfl
  | o :: l, a => by
    unfold putAll
    rw [putAll_size vs l]
    split
    · exact put_size
    · rfl
theorem putAll_defers (vs : Nat → Value) : ∀ (l : List Oper) (a : Act), (putAll vs l a).defers = a.defers
  | [], a => rfl
  | o :: l, a => by
    unfold putAll
    rw [putAll_defers vs l]
    split
    · exact put_defers
    · rfl
theorem putAll_at (vs : Nat → Value) : ∀ (l : List Oper) (a : Act) (s : Nat), s < a.tmps.size → (putAll vs l a).tmps[s]? = if (∃ o ∈ l, o.dst = some s) then some (vs s) else a.tmps[s]?
  | [], a, s, h => by simp [putAll]
  | o :: l, a, s, h => by
    unfold putAll
    rw [putAll_at vs l _ s (by split <;> simp [put_size, h])]
    by_cases h1 : ∃ o' ∈ l, o'.dst = some s
    · rw [if_pos h1, if_pos (by obtain ⟨o', a1, a2⟩ := h1; exact ⟨o', List.mem_cons_of_mem _ a1, a2⟩)]
    · rw [if_neg h1]
      by_cases h2 : o.dst = some s
      · rw [if_pos ⟨o, List.mem_cons_self .., h2⟩, h2]
        exact put_at h
      · rw [if_neg (by
          rintro ⟨o', a1, a2⟩
          rcases List.mem_cons.1 a1 with rfl | a1
          · exact h2 a2
          · exact h1 ⟨o', a1, a2⟩)]
        split
        · rename_i s' hs'
          exact put_get (by rw [← hs']; exact h2)
        · rfl

def Inv (l : List Oper) (a0 : Act) (J : World → Prop) (F : Nat → Value → World → Prop) (listed : Array Bool) (a : Act) (x : World) : Prop :=
  listed.size = l.length ∧ J x ∧ a.tmps.size = a0.tmps.size ∧ a.defers = a0.defers ∧ (∀ s : Nat, (∀ o ∈ l, o.dst ≠ some s) → a.tmps[s]? = a0.tmps[s]?) ∧
  ∀ (j : Nat) (o : Oper) (s : Nat), l[j]? = some o → o.dst = some s → listed.getD j true = true → ∃ v, a.tmps[s]? = some v ∧ F s v x

theorem region_rg {id : Nat} {Q : Exit → Act → World → Prop} {a0 : Act} {w : World} {l : List Oper} (J : World → Prop) (G : World → World → Prop) (F : Nat → Value → World → Prop)
    (hm : P.follows .mixedOrders = true) (hB : slotsOk l.toArray = true) (hg : l.all (fun o => o.guard.isNone) = true) (hdB : l.all (fun o => match o.dst with | some s => decide (s < a0.tmps.size) | none => true) = true)
    (hJ : J { w with drawn := w.drawn + 1 })
    (hF : ∀ s v x x', J x → G x x' → F s v x → F s v x')
    (hstep : ∀ o ∈ l, ∀ (a : Act) (x : World), J x → (∀ s ∈ o.looksAt l.toArray, if (∃ o' ∈ l, o'.dst = some s) then ∃ v, a.tmps[s]? = some v ∧ F s v x else a.tmps[s]? = a0.tmps[s]?) →
      o.wp P a x (fun a' x' => J x' ∧ G x x' ∧ ∃ v, a' = a.put o.dst v ∧ ∀ d, o.dst = some d → F d v x') Q)
    (hend : ∀ (vs : Nat → Value) (x : World), J x → (∀ o ∈ l, ∀ s, o.dst = some s → F s (vs s) x) → Q .normal (putAll vs l a0) x) :
    (Code.region id l.toArray true).wp P Q a0 w := by
  have hd : ∀ o ∈ l, ∀ s, o.dst = some s → s < a0.tmps.size := fun o ho s hs => by
    have := List.all_eq_true.1 hdB o ho
    rw [hs] at this
    simpa using this
  have H := slotsOk_spec hB
  have get : ∀ j : Nat, l.toArray[j]? = l[j]? := fun j => by simp
  have hone : ∀ (listed : Array Bool) (a : Act) (x : World), Inv l a0 J F listed a x → Region.ready .any l.toArray listed = [] → Q .normal a x := by
    rintro listed a x ⟨h1, h2, h3, h4, h5, h6⟩ hr
    have hu := all_up H (by simpa using h1) hr
    have : a = putAll (fun s => (a.tmps[s]?).getD undef) l a0 := by
      refine act_ext (by rw [putAll_defers]; exact h4) fun s => ?_
      by_cases hs : s < a0.tmps.size
      · rw [putAll_at _ _ _ _ hs]
        split
        · rw [Array.getElem?_eq_getElem (by omega)]; rfl
        · rename_i hn
          exact h5 s fun o ho e => hn ⟨o, ho, e⟩
      · rw [Array.getElem?_eq_none (by omega), Array.getElem?_eq_none (by rw [putAll_size]; omega)]
    rw [this]
    refine hend _ x h2 fun o ho s hs => ?_
    obtain ⟨j, hj⟩ := List.getElem?_of_mem ho
    obtain ⟨v, hv, hf⟩ := h6 j o s hj hs (hu j (by have := lt_of_some (ops := l.toArray) ((get j).trans hj); exact this))
    rw [hv]
    exact hf
  have hall : ∀ (f : Nat) (listed : Array Bool) (a : Act) (x : World), unlisted l.toArray.size listed ≤ f → Inv l a0 J F listed a x → wpAny P .any l.toArray Q f listed a x := by
    intro f
    induction f with
    | zero =>
      intro listed a x hf h
      have hr : Region.ready .any l.toArray listed = [] := by
        rw [List.eq_nil_iff_forall_not_mem]
        intro i hi
        obtain ⟨hiu, o, ho, _⟩ := mem_ready.1 hi
        have := unlisted_set (n := l.toArray.size) (lt_of_some ho) hiu
        omega
      exact ⟨hr, hone listed a x h hr⟩
    | succ f ih =>
      intro listed a x hf h
      refine ⟨fun hr => hone listed a x h hr, fun i hi => ?_⟩
      obtain ⟨hiu, o, ho, hedge⟩ := mem_ready.1 hi
      have hl := unlisted_set (n := l.toArray.size) (lt_of_some ho) hiu
      obtain ⟨h1, h2, h3, h4, h5, h6⟩ := h
      have hol : l[i]? = some o := by rw [← get]; exact ho
      have hmem : o ∈ l := List.mem_of_getElem? hol
      have hgn : o.guard = none := by
        have := List.all_eq_true.1 hg o hmem
        simpa using this
      have hw : Region.wanted o (yielded l.toArray a.tmps) = true := by unfold Region.wanted; rw [hgn]
      have hst := hstep o hmem a x h2 (fun s hs => by
        split
        · rename_i hex
          obtain ⟨o', ho', hd'⟩ := hex
          obtain ⟨j, hj⟩ := List.getElem?_of_mem ho'
          obtain ⟨_, e, he, hb, hon⟩ := H.look i o s j o' ho hs ((get j).trans hj) hd'
          have := hedge e he hb
          rw [hon] at this
          exact h6 j o' s hj hd' (getD_tt this)
        · rename_i hn
          exact h5 s fun o' ho' e => hn ⟨o', ho', e⟩)
      unfold wpOp
      simp only [ho]
      rw [if_pos hw]
      refine .inl (Oper.wp_mono ?_ hst)
      rintro a' x' ⟨j1, j2, v, rfl, j3⟩
      refine ih _ _ _ (by omega) ⟨by simpa using h1, j1, by rw [put_size]; exact h3, by rw [put_defers]; exact h4, fun s hs => ?_, fun j oj s hj hdj hlj => ?_⟩
      · rw [put_get (hs o hmem)]; exact h5 s hs
      · by_cases hij : i = j
        · subst hij
          obtain rfl : o = oj := Option.some.inj (hol.symm.trans hj)
          refine ⟨v, ?_, j3 s hdj⟩
          rw [hdj]
          exact put_at (by rw [h3]; exact hd o hmem s hdj)
        · rw [getD_set_ne true hij] at hlj
          obtain ⟨u, hu1, hu2⟩ := h6 j oj s hj hdj hlj
          refine ⟨u, ?_, hF s u x x' h2 j2 hu2⟩
          rw [put_get]
          · exact hu1
          · intro e
            exact hij (H.dst i j o oj s ho ((get j).trans hj) e hdj).symm
  refine wp_region_any hm (hall _ _ _ _ ?_ ⟨by simp, hJ, rfl, rfl, fun _ _ => rfl, fun j o s hj hdj hlj => ?_⟩)
  · unfold unlisted
    exact Nat.le_trans (List.length_filter_le _ _) (by simp)
  · exfalso
    have hlt : j < l.length := (List.getElem?_eq_some_iff.1 hj).1
    simp [hlt] at hlj

end
end Go.Proofs
