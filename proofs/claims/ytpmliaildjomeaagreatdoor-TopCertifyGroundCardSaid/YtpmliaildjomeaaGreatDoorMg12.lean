import Derived.Test.YtpmliaildjomeaaGreatDoorMg11
import Derived.Test.YtpmliaildjomeaaGreatDoorMg4
import Derived.WalkKit
import Derived.Maps.AppendAt
set_option linter.unusedSimpArgs false
set_option linter.unusedVariables false
namespace Go.Proofs
open Go.RowKit
section
variable {P : Program} {ops : Array Oper}
theorem copyCall_any {Q : Exit → Act → World → Prop} {w : World} {c q m k dc dq d : Nat} {Pr : Value → World → Prop} {vq : Value} {z z' : Obj} {af : Act} (N : CopyCall P ops w c q m k dc dq d Pr vq z z' af)
    (hQ : ∀ (B : Nat) (V : Value) (x : World), w.heap.size ≤ B → Below w.heap.size w x → x.heap[B]? = some z' → Q .normal (frameOf af d dc (.pointer (some ⟨B, 0, none⟩)) V) x) :
    ∀ (f : Nat) (listed : Array Bool) (a : Act) (x : World), listed.size = ops.size → unlisted ops.size listed ≤ f → Mid ops w c q m k d dc Pr z z' af listed a x → wpAny P .any ops Q f listed a x := by
  have hend : ∀ (listed : Array Bool) (a : Act) (x : World), listed.size = ops.size → Mid ops w c q m k d dc Pr z z' af listed a x → Region.ready .any ops listed = [] → Q .normal a x := by
    intro listed a x hz h hr
    have hu := all_up N.slots hz hr
    obtain ⟨om, hm1, _⟩ := N.alloc
    obtain ⟨ok, hk1, _⟩ := N.store
    have hm := hu m (lt_of_some hm1)
    have hk := hu k (lt_of_some hk1)
    obtain ⟨hb, _, V1, V2, hag, hmm, _⟩ := h
    obtain ⟨B, rfl, h2, h5⟩ := hmm hm
    rw [hk, if_pos rfl] at h5
    rw [agree_all hag hu]
    exact hQ B V2 x h2 hb h5
  intro f
  induction f with
  | zero =>
    intro listed a x hz hf h
    have hr : Region.ready .any ops listed = [] := by
      rw [List.eq_nil_iff_forall_not_mem]
      intro i hi
      obtain ⟨hiu, o, ho, _⟩ := mem_ready.1 hi
      have := unlisted_set (n := ops.size) (lt_of_some ho) hiu
      omega
    exact ⟨hr, hend listed a x hz h hr⟩
  | succ f ih =>
    intro listed a x hz hf h
    refine ⟨fun hr => hend listed a x hz h hr, fun i hi => ?_⟩
    obtain ⟨hiu, o, ho, _⟩ := mem_ready.1 hi
    have hl := unlisted_set (n := ops.size) (lt_of_some ho) hiu
    exact wpOp_mono (fun a' x' h' => ih _ a' x' (by simpa using hz) (by omega) h') (copyCall_step N hi h)

def yieldsC (v : Value) (o : Oper) : Oper := { o with op := .move (.const v) }
def dummyC (c q m k : Nat) (vq : Value) : Nat → List Oper → List Oper
  | _, [] => []
  | i, o :: l => (if i == q then yieldsC vq o else if i == c || i == m || i == k then struck o else o) :: dummyC c q m k vq (i + 1) l
theorem dummyC_get (c q m k : Nat) (vq : Value) : ∀ (l : List Oper) (i j : Nat), (dummyC c q m k vq i l)[j]? = (l[j]?).map fun o => if i + j == q then yieldsC vq o else if i + j == c || i + j == m || i + j == k then struck o else o
  | [], i, j => by simp [dummyC]
  | o :: l, i, 0 => by simp [dummyC]
  | o :: l, i, j + 1 => by
    simp only [dummyC, List.getElem?_cons_succ]
    rw [dummyC_get c q m k vq l (i + 1) j]
    congr 2
    funext o
    rw [show i + 1 + j = i + (j + 1) by omega]
def copyB (ops : Array Oper) (c q m k dc dq d : Nat) : Bool :=
  (decide (m ≠ k) && decide (c ≠ q) && decide (c ≠ m) && decide (c ≠ k) && decide (q ≠ m) && decide (q ≠ k) && decide (d ≠ dc) && decide (dq ≠ d) && decide (dq ≠ dc)) &&
  (match ops[m]? with | some o => o.dst == some d && o.guard.isNone | none => false) &&
  (match ops[k]? with | some o => o.dst.isNone && o.guard.isNone && (o.looksAt ops).contains d && o.after.any (fun e => Region.binds .any e && e.on == q) | none => false) &&
  (match ops[c]? with | some o => o.dst == some dc && o.guard.isNone | none => false) &&
  (match ops[q]? with | some o => o.dst == some dq && o.guard.isNone && (o.looksAt ops).contains dc | none => false) &&
  (List.range ops.size).all fun i => match ops[i]? with | some o => (i == k || !(o.looksAt ops).contains d) && (i == q || !(o.looksAt ops).contains dc) | none => true

theorem region_copy {id : Nat} {Q : Exit → Act → World → Prop} {a : Act} {w : World} {l : List Oper} (w0 : World) (c q m k dc dq d : Nat) (Pr : Value → World → Prop) (vq : Value) (z z' : Obj) (af : Act) (hm : P.follows .mixedOrders = true)
    (hB : slotsOk l.toArray = true) (hB' : slotsOk (dummyC c q m k vq 0 l).toArray = true) (hS : Region.noSelect l.toArray = true) (hN : copyB l.toArray c q m k dc dq d = true) (hw : Below w0.heap.size w0 w)
    (hst : ∀ V x x', Pr V x → Below x.heap.size x x' → Pr V x')
    (hal : ∀ o, l[m]? = some o → ∀ (a : Act) (x : World), (execOp a.eval o).run P x = .ok (.value (.pointer (some ⟨x.heap.size, 0, none⟩))) (x.alloc z))
    (hq : ∀ u, Below w.heap.size w u → (∀ (x : Grew u) (b o : Nat), b < u.heap.size → x.val.cell? ⟨b, o, none⟩ = u.cell? ⟨b, o, none⟩) → Hid (∀ x : Grew u, Below w0.heap.size w0 x.val) → Hid (∀ x : Grew u, Below w.heap.size w x.val) →
      wpQuiet P (dummyC c q m k vq 0 l).toArray (fun w' => ∃ x : Grew u, w' = x.val) (fun a' => a' = af) (dummyC c q m k vq 0 l) a)
    (hcp : ∀ o, l[c]? = some o → ∀ x, Below w.heap.size w x → Below w0.heap.size w0 x → ∃ f args, (execOp af.eval o).run P x = .ok (.enter f args) x ∧ Calls P f args x fun e x' => ∃ V, e = .returned V ∧ Pr V x' ∧ Below x.heap.size x x')
    (hcl : ∀ o, l[q]? = some o → ∀ V x, Below w.heap.size w x → Below w0.heap.size w0 x → Pr V x → ∃ f args, (execOp (af.put (some dc) V).eval o).run P x = .ok (.enter f args) x ∧ Calls P f args x fun e x' => e = .returned vq ∧ Below x.heap.size x x')
    (hsto : ∀ o, l[k]? = some o → ∀ (B : Nat) (x : World), Below w.heap.size w x → w.heap.size ≤ B → x.heap[B]? = some z →
      ∃ x', (execOp (af.put (some d) (.pointer (some ⟨B, 0, none⟩))).eval o).run P x = .ok .skip x' ∧ Below w.heap.size w x' ∧ x'.heap[B]? = some z')
    (h : ∀ (B : Nat) (V : Value) (x : World), w.heap.size ≤ B → Below w.heap.size w x → Below w0.heap.size w0 x → x.heap[B]? = some z' → Q .normal ((af.put (some d) (.pointer (some ⟨B, 0, none⟩))).put (some dc) V) x) :
    (Code.region id l.toArray true).wp P Q a w := by
  simp only [copyB, Bool.and_eq_true, decide_eq_true_eq, List.all_eq_true, List.mem_range] at hN
  obtain ⟨⟨⟨⟨⟨n1, n2⟩, n3⟩, n4⟩, n5⟩, n6⟩ := hN
  have H := slotsOk_spec hB
  have H' := slotsOk_spec hB'
  have hsel := Region.noSelect_spec hS
  have get' : ∀ j : Nat, (dummyC c q m k vq 0 l).toArray[j]? = (l.toArray[j]?).map fun o => if j == q then yieldsC vq o else if j == c || j == m || j == k then struck o else o := fun j => by
    have := dummyC_get c q m k vq l 0 j
    simpa using this
  have hdst : ∀ (j : Nat) (o : Oper), (if (j == q) = true then yieldsC vq o else if (j == c || j == m || j == k) = true then struck o else o).dst = o.dst := fun j o => by
    split
    · rfl
    · split <;> rfl
  have hyd : ∀ (t : Array Value) (g : Nat), yielded (dummyC c q m k vq 0 l).toArray t g = yielded l.toArray t g := fun t g => by
    unfold yielded
    rw [get']
    cases l.toArray[g]? with
    | none => rfl
    | some o => simp only [Option.map_some, Option.bind_some, hdst]
  have hwt : ∀ (o : Oper) (t : Array Value), Region.wanted o (yielded (dummyC c q m k vq 0 l).toArray t) = Region.wanted o (yielded l.toArray t) := fun o t => by
    have : yielded (dummyC c q m k vq 0 l).toArray t = yielded l.toArray t := funext (hyd t)
    rw [this]
  have hsel' : ∀ (j : Nat) (o : Oper) cs b, (dummyC c q m k vq 0 l).toArray[j]? = some o → o.op ≠ .select cs b := fun j o cs b ho => by
    rw [get'] at ho
    cases hj : l.toArray[j]? with
    | none => rw [hj] at ho; cases ho
    | some o' =>
      rw [hj] at ho
      simp only [Option.map_some, Option.some.injEq] at ho
      subst ho
      split
      · simp [yieldsC]
      · split
        · simp [struck]
        · exact hsel j o' cs b hj
  have hfin := fun u hu => fin_of_quiet H' hsel' (dummyC c q m k vq 0 l) 0 a (fun j => by simp) (hq u hu (fun x => x.cell) (fun x => via hw (via hu x.ok)) (fun x => via hu x.ok))
  have hquiet : ∀ (i : Nat) (o : Oper), i ≠ c → i ≠ q → i ≠ m → i ≠ k → l.toArray[i]? = some o → ∀ u, Below w.heap.size w u → ∃ v, YieldsIn P l.toArray (above u) o v af ∧ ∀ s, o.dst = some s → s < af.tmps.size → af.tmps[s]? = some v := by
    intro i o hic hiq him hik ho u hu
    have ho' : (dummyC c q m k vq 0 l).toArray[i]? = some o := by
      rw [get', ho]
      simp [hic, hiq, him, hik]
    obtain ⟨v, hy, hv⟩ := (hfin u hu).1 i o (Nat.zero_le _) ho'
    refine ⟨v, ?_, hv⟩
    rw [above_grew]
    unfold YieldsIn at *
    rwa [hwt] at hy
  obtain ⟨f1, f2, f3, f4⟩ := hfin w (Below.refl _ _)
  obtain ⟨oc, hoc, oc2, oc3⟩ : ∃ o, l.toArray[c]? = some o ∧ o.dst = some dc ∧ o.guard = none := by
    cases hj : l.toArray[c]? with
    | none => rw [hj] at n4; cases n4
    | some o =>
      rw [hj] at n4
      simp only [Bool.and_eq_true, beq_iff_eq, Option.isNone_iff_eq_none] at n4
      exact ⟨o, rfl, n4.1, n4.2⟩
  obtain ⟨oq, hoq, oq2, oq3, oq4⟩ : ∃ o, l.toArray[q]? = some o ∧ o.dst = some dq ∧ o.guard = none ∧ dc ∈ o.looksAt l.toArray := by
    cases hj : l.toArray[q]? with
    | none => rw [hj] at n5; cases n5
    | some o =>
      rw [hj] at n5
      simp only [Bool.and_eq_true, beq_iff_eq, Option.isNone_iff_eq_none, List.contains_iff_mem] at n5
      exact ⟨o, rfl, n5.1.1, n5.1.2, n5.2⟩
  have hres : dq < af.tmps.size → af.tmps[dq]? = some vq := by
    intro hlt
    have ho' : (dummyC c q m k vq 0 l).toArray[q]? = some (yieldsC vq oq) := by
      rw [get', hoq]
      simp
    obtain ⟨v, hy, hv⟩ := f1 q _ (Nat.zero_le _) ho'
    have := hv dq oq2 hlt
    rw [this]
    rcases hy with ⟨_, h2⟩ | ⟨h1, _⟩
    · have h3 := h2 w ⟨⟨w, Below.refl _ _⟩, rfl⟩
      unfold Oper.quietAt at h3
      have h4 : (execOp af.eval (yieldsC vq oq)).run P w = .ok (.value vq) w := by unfold execOp yieldsC; rfl
      rw [h4] at h3
      simp only [Oper.quietUpon] at h3
      rw [h3.2]
    · unfold Region.wanted at h1
      rw [show (yieldsC vq oq).guard = none from oq3] at h1
      cases h1
  refine wp_region_any hm (copyCall_any (c := c) (q := q) (m := m) (k := k) (dc := dc) (dq := dq) (d := d) (Pr := Pr) (vq := vq) (z := z) (z' := z') (af := af)
    ⟨H, hsel, hquiet, ?_, fun o ho => ?_, fun o ho => ?_, ⟨oc, hoc⟩, hres, hst, ?_, ?_, ?_⟩ (fun B V x h1 h2 h3 => h B V x h1 h2 (via hw h2) h3) _ _ _ _ (by simp) ?_ ⟨(Below.refl _ w).drew, fun _ => ?_, undef, undef, ⟨?_, ?_, fun s hs => ?_⟩, fun h => ?_, fun h => ?_⟩)
  · intro i o ho
    have := n6 i (lt_of_some ho)
    rw [ho] at this
    simp only [Bool.and_eq_true, Bool.or_eq_true, beq_iff_eq, Bool.not_eq_true', List.contains_eq_mem, decide_eq_false_iff_not] at this
    exact ⟨fun hik => this.1.resolve_left hik, fun hiq => this.2.resolve_left hiq⟩
  · obtain rfl : oc = o := Option.some.inj (hoc.symm.trans ho)
    exact ⟨oc2, oc3, fun x hx => hcp oc (by simpa using hoc) x hx (via hw hx)⟩
  · obtain rfl : oq = o := Option.some.inj (hoq.symm.trans ho)
    exact ⟨oq2, oq3, oq4, fun V x hx hp => hcl oq (by simpa using hoq) V x hx (via hw hx) hp⟩
  · cases hj : l.toArray[m]? with
    | none => rw [hj] at n2; cases n2
    | some o =>
      rw [hj] at n2
      simp only [Bool.and_eq_true, beq_iff_eq, Option.isNone_iff_eq_none] at n2
      exact ⟨o, rfl, n2.1, n2.2, hal o (by simpa using hj)⟩
  · cases hj : l.toArray[k]? with
    | none => rw [hj] at n3; cases n3
    | some o =>
      rw [hj] at n3
      simp only [Bool.and_eq_true, Option.isNone_iff_eq_none, List.contains_iff_mem] at n3
      obtain ⟨e, he, hb⟩ := Array.any_eq_true'.1 n3.2
      simp only [Bool.and_eq_true, beq_iff_eq] at hb
      exact ⟨o, rfl, n3.1.1.1, n3.1.1.2, n3.1.2, ⟨e, he, hb⟩, hsto o (by simpa using hj)⟩
  · obtain ⟨⟨⟨⟨⟨⟨⟨⟨a1, a2⟩, a3⟩, a4⟩, a5⟩, a6⟩, a7⟩, a8⟩, a9⟩ := n1
    exact ⟨a1, a2, a3, a4, a5, a6, a7, a8, a9⟩
  · unfold unlisted
    exact Nat.le_trans (List.length_filter_le _ _) (by simp)
  · have hlt : k < l.toArray.size := by
      rcases Nat.lt_or_ge k l.toArray.size with h | h
      · exact h
      · rw [Array.getElem?_eq_none h] at n3; cases n3
    simp only [List.size_toArray] at hlt
    simp [hlt]
  · rw [frameOf_size]; exact f2
  · exact f3.trans (by unfold frameOf; rw [put_defers, put_defers])
  · have hnw : ∀ (j : Nat) (oj : Oper), l.toArray[j]? = some oj → oj.dst ≠ some s := fun j oj hj hd => by
      have := hs j oj hj hd
      have hlt := lt_of_some hj
      simp only [List.size_toArray] at hlt
      simp [hlt] at this
    have hsd : s ≠ d := by
      rintro rfl
      cases hj : l.toArray[m]? with
      | none => rw [hj] at n2; cases n2
      | some o =>
        rw [hj] at n2
        simp only [Bool.and_eq_true, beq_iff_eq, Option.isNone_iff_eq_none] at n2
        exact hnw m o hj n2.1
    have hsc : s ≠ dc := by rintro rfl; exact hnw c oc hoc oc2
    rw [frameOf_get hsd hsc]
    refine f4 s fun j oj _ hj hd => ?_
    rw [get'] at hj
    cases hjj : l.toArray[j]? with
    | none => rw [hjj] at hj; cases hj
    | some o' =>
      rw [hjj] at hj
      simp only [Option.map_some, Option.some.injEq] at hj
      exact hnw j o' hjj (by rw [← hd, ← hj]; exact (hdst j o').symm)
  · exfalso
    have hlt : m < l.toArray.size := by
      rcases Nat.lt_or_ge m l.toArray.size with h | h
      · exact h
      · rw [Array.getElem?_eq_none h] at n2; cases n2
    simp only [List.size_toArray] at hlt
    simp [hlt] at h
  · exfalso
    have hlt := lt_of_some hoc
    simp only [List.size_toArray] at hlt
    simp [hlt] at h
end
end Go.Proofs

set_option linter.unusedSimpArgs false
set_option linter.unusedVariables false
namespace Go.Proofs
open Go.RowKit
section
variable {P : Program} {ops : Array Oper}

/-! A region that draws its order, some of whose operations ('special') make or write memory, or call what hands back memory: each special one is told by hand ('J': what holds, given which have come up, 'L', and with which ghosts, 'g'); all others are walked once, in the order of the text. -/
structure Gh where
  b : Nat
  a1 : Option Addr
  a2 : Option Addr
  a3 : Option Addr
  c1 : Nat
  c2 : Nat
  c3 : Nat
def Gh.zero : Gh := ⟨0, none, none, none, 0, 0, 0⟩
def upd (g : Nat → Gh) (j : Nat) (h : Gh) : Nat → Gh := fun k => if k = j then h else g k
def setL (L : Nat → Bool) (j : Nat) : Nat → Bool := fun k => k == j || L k
def mixL (sp : List Nat) (mk : Nat → Gh → Value) (g : Nat → Gh) : Nat → List Oper → List Oper
  | _, [] => []
  | i, o :: l => (if sp.contains i then yieldsC (mk i (g i)) o else o) :: mixL sp mk g (i + 1) l
theorem mixL_get (sp : List Nat) (mk : Nat → Gh → Value) (g : Nat → Gh) : ∀ (l : List Oper) (i j : Nat), (mixL sp mk g i l)[j]? = (l[j]?).map fun o => if sp.contains (i + j) then yieldsC (mk (i + j) (g (i + j))) o else o
  | [], i, j => by simp [mixL]
  | o :: l, i, 0 => by simp [mixL]
  | o :: l, i, j + 1 => by
    simp only [mixL, List.getElem?_cons_succ]
    rw [mixL_get sp mk g l (i + 1) j]
    congr 2
    funext o
    rw [show i + 1 + j = i + (j + 1) by omega]
/-- The slots that hang on what operation 'j' yields. -/
def coneS (ops : Array Oper) (j : Nat) : Nat → List Oper → List Nat → List Nat
  | _, [], acc => acc
  | i, o :: l, acc => coneS ops j (i + 1) l (if i == j || (o.looksAt ops).any acc.contains then (match o.dst with | some d => d :: acc | none => acc) else acc)
theorem coneS_spec {j : Nat} {G : Nat → Prop} (hG : ∀ (i : Nat) (o : Oper) (d : Nat), ops[i]? = some o → o.dst = some d → (i = j ∨ ∃ s ∈ o.looksAt ops, G s) → G d) : ∀ (l : List Oper) (i : Nat) (acc : List Nat), (∀ k, l[k]? = ops[i + k]?) → (∀ d ∈ acc, G d) → ∀ d ∈ coneS ops j i l acc, G d
  | [], i, acc, _, ha, d, hd => ha d hd
  | o :: l, i, acc, hl, ha, d, hd => by
    unfold coneS at hd
    refine coneS_spec hG l (i + 1) _ (fun k => by have := hl (k + 1); rw [List.getElem?_cons_succ] at this; rw [this]; congr 1; omega) ?_ d hd
    intro d' hd'
    split at hd'
    · rename_i hc
      cases hdst : o.dst with
      | none => rw [hdst] at hd'; exact ha d' hd'
      | some e =>
        rw [hdst] at hd'
        rcases List.mem_cons.1 hd' with rfl | hm
        · refine hG i o d' (by simpa using (hl 0).symm) hdst ?_
          simp only [Bool.or_eq_true, beq_iff_eq, List.any_eq_true, List.contains_iff_mem] at hc
          rcases hc with h | ⟨s, h1, h2⟩
          · exact .inl h
          · exact .inr ⟨s, h1, ha s h2⟩
        · exact ha d' hm
    · exact ha d' hd'
def maskL (cs : List Nat) : Nat → List Value → List Value
  | _, [] => []
  | i, v :: l => (if cs.contains i then undef else v) :: maskL cs (i + 1) l
theorem maskL_get (cs : List Nat) : ∀ (l : List Value) (i s : Nat), (maskL cs i l)[s]? = (l[s]?).map fun v => if cs.contains (i + s) then undef else v
  | [], i, s => by simp [maskL]
  | v :: l, i, 0 => by simp [maskL]
  | v :: l, i, s + 1 => by
    simp only [maskL, List.getElem?_cons_succ]
    rw [maskL_get cs l (i + 1) s]
    congr 2
    funext v
    rw [show i + 1 + s = i + (s + 1) by omega]
theorem maskL_same {cs : List Nat} {t t' : Array Value} (h : maskL cs 0 t.toList = maskL cs 0 t'.toList) {s : Nat} (hs : s ∉ cs) : t[s]? = t'[s]? := by
  have := congrArg (fun l => l[s]?) h
  simp only [maskL_get, Nat.zero_add] at this
  have hc : cs.contains s = false := by simpa using hs
  rw [hc] at this
  simpa using this
/-- What an operation does: the value that it yields, and the world behind it. -/
def Does (P : Program) (K : Value → World → Prop) : Result Next → Prop
  | .ok (.value v) x => K v x
  | .ok .skip x => K undef x
  | .ok (.enter f args) x => Calls P f args x fun e x' => ∃ v, e = .returned v ∧ K v x'
  | _ => False
theorem wp_does {o : Oper} {a : Act} {x : World} {K : Value → World → Prop} {N : Act → World → Prop} {Q : Exit → Act → World → Prop} (h : Does P K ((execOp a.eval o).run P x)) (hN : ∀ v x', K v x' → N (a.put o.dst v) x') : o.wp P a x N Q := by
  unfold Oper.wp
  cases hr : (execOp a.eval o).run P x with
  | ok n x' =>
    rw [hr] at h
    cases n with
    | value v => exact hN _ _ h
    | skip => exact hN _ _ h
    | enter f args =>
      rw [Oper.upon_enter]
      refine Calls.mono h ?_
      rintro e x'' ⟨v, rfl, hk⟩
      exact hN _ _ hk
    | _ => exact h.elim
  | _ => rw [hr] at h; exact h.elim
theorem does_value {K : Value → World → Prop} {r : Result Next} {v : Value} {x : World} (hr : r = .ok (.value v) x) (h : K v x) : Does P K r := by subst hr; exact h
theorem does_skip {K : Value → World → Prop} {r : Result Next} {x : World} (hr : r = .ok .skip x) (h : K undef x) : Does P K r := by subst hr; exact h
theorem does_enter {K : Value → World → Prop} {r : Result Next} {x : World} {f : FuncId} {args : Array Value} (hr : r = .ok (.enter f args) x) (h : Calls P f args x fun e x' => ∃ v, e = .returned v ∧ K v x') : Does P K r := by subst hr; exact h

def spB (ops : Array Oper) (sp : List Nat) : Bool := sp.all fun j => match ops[j]? with | some o => o.guard.isNone | none => false

def MixInv (ops : Array Oper) (C : World → Prop) (J : (Nat → Bool) → (Nat → Gh) → World → Prop) (af : (Nat → Gh) → Act) (listed : Array Bool) (a : Act) (x : World) : Prop :=
  C x ∧ (∀ (i : Nat) (o : Oper), ops[i]? = some o → listed.getD i true = true → ∀ e ∈ o.after, Region.binds .any e = true → listed.getD e.on true = true) ∧
  ∃ g, Agree ops listed a (af g) ∧ J (fun j => listed.getD j true) g x
theorem setL_listed (listed : Array Bool) (i : Nat) : (fun j => (listed.setIfInBounds i true).getD j true) = setL (fun j => listed.getD j true) i := funext fun j => by
  unfold setL
  by_cases hij : i = j
  · subst hij
    rw [set_self, BEq.rfl, Bool.true_or]
  · rw [getD_set_ne true hij]
    have : (j == i) = false := by simpa using fun e => hij e.symm
    rw [this, Bool.false_or]

theorem region_mixC {id : Nat} {Q : Exit → Act → World → Prop} {a0 : Act} {w : World} {l : List Oper} (w0 : World) (C : World → Prop) (sp : List Nat) (mk : Nat → Gh → Value) (J : (Nat → Bool) → (Nat → Gh) → World → Prop) (af : (Nat → Gh) → Act) (hm : P.follows .mixedOrders = true)
    (hB : slotsOk l.toArray = true) (hB' : ∀ g, slotsOk (mixL sp mk g 0 l).toArray = true) (hS : Region.noSelect l.toArray = true) (hN : spB l.toArray sp = true) (hC0 : C w) (hCs : ∀ x x', C x → Below x.heap.size x x' → C x') (hCw : ∀ x, C x → Below w0.heap.size w0 x)
    (h0 : ∀ L, (∀ j ∈ sp, L j = false) → J L (fun _ => Gh.zero) w)
    (hst : ∀ L L' g x x', (∀ j ∈ sp, L' j = L j) → J L g x → Below x.heap.size x x' → J L' g x')
    (hq : ∀ g u, C u → (∀ (x : Grew u) (b o : Nat), b < u.heap.size → x.val.cell? ⟨b, o, none⟩ = u.cell? ⟨b, o, none⟩) → Hid (∀ x : Grew u, Below w0.heap.size w0 x.val) → Hid (∀ x : Grew u, C x.val) →
      wpQuiet P (mixL sp mk g 0 l).toArray (fun w' => ∃ x : Grew u, w' = x.val) (fun a' => a' = af g) (mixL sp mk g 0 l) a0)
    (hind : ∀ j ∈ sp, ∀ g h, maskL (coneS l.toArray j 0 l []) 0 (af g).tmps.toList = maskL (coneS l.toArray j 0 l []) 0 (af (upd g j h)).tmps.toList)
    (hsp : ∀ j ∈ sp, ∀ o, l[j]? = some o → ∀ (L : Nat → Bool) (g : Nat → Gh) (x : World), J L g x → C x → Below w0.heap.size w0 x → L j = false → (∀ e ∈ o.after, Region.binds .any e = true → L e.on = true) →
      Does P (fun v x' => C x' ∧ ((o.dst = none ∧ J (setL L j) g x') ∨ ∃ h, v = mk j h ∧ J (setL L j) (upd g j h) x')) ((execOp (af g).eval o).run P x))
    (hend : ∀ g x, J (fun _ => true) g x → C x → Below w0.heap.size w0 x → Q .normal (af g) x) :
    (Code.region id l.toArray true).wp P Q a0 w := by
  have H := slotsOk_spec hB
  have H' := fun g => slotsOk_spec (hB' g)
  have hsel := Region.noSelect_spec hS
  have hgn : ∀ j ∈ sp, ∀ o, l.toArray[j]? = some o → o.guard = none := fun j hj o ho => by
    unfold spB at hN
    have := List.all_eq_true.1 hN j hj
    rw [ho] at this
    simpa using this
  have get' : ∀ g (j : Nat), (mixL sp mk g 0 l).toArray[j]? = (l.toArray[j]?).map fun o => if sp.contains j then yieldsC (mk j (g j)) o else o := fun g j => by
    have := mixL_get sp mk g l 0 j
    simpa using this
  have hdst : ∀ (g : Nat → Gh) (j : Nat) (o : Oper), (if sp.contains j = true then yieldsC (mk j (g j)) o else o).dst = o.dst := fun g j o => by split <;> rfl
  have hyd : ∀ (g : Nat → Gh) (t : Array Value) (k : Nat), yielded (mixL sp mk g 0 l).toArray t k = yielded l.toArray t k := fun g t k => by
    unfold yielded
    rw [get']
    cases l.toArray[k]? with
    | none => rfl
    | some o => simp only [Option.map_some, Option.bind_some, hdst]
  have hwt : ∀ (g : Nat → Gh) (o : Oper) (t : Array Value), Region.wanted o (yielded (mixL sp mk g 0 l).toArray t) = Region.wanted o (yielded l.toArray t) := fun g o t => by
    have : yielded (mixL sp mk g 0 l).toArray t = yielded l.toArray t := funext (hyd g t)
    rw [this]
  have hsel' : ∀ (g : Nat → Gh) (j : Nat) (o : Oper) cs b, (mixL sp mk g 0 l).toArray[j]? = some o → o.op ≠ .select cs b := fun g j o cs b ho => by
    rw [get'] at ho
    cases hj : l.toArray[j]? with
    | none => rw [hj] at ho; cases ho
    | some o' =>
      rw [hj] at ho
      simp only [Option.map_some, Option.some.injEq] at ho
      subst ho
      split
      · simp [yieldsC]
      · exact hsel j o' cs b hj
  have hfin := fun g u hu => fin_of_quiet (H' g) (hsel' g) (mixL sp mk g 0 l) 0 a0 (fun j => by simp) (hq g u hu (fun x => x.cell) (fun x => hCw _ (hCs _ _ hu x.ok)) (fun x => hCs _ _ hu x.ok))
  have hsz : ∀ g, a0.tmps.size = (af g).tmps.size := fun g => (hfin g w hC0).2.1
  have hdf : ∀ g, a0.defers = (af g).defers := fun g => (hfin g w hC0).2.2.1
  have hun : ∀ (g : Nat → Gh) (s : Nat), (∀ (j : Nat) (oj : Oper), l.toArray[j]? = some oj → oj.dst ≠ some s) → a0.tmps[s]? = (af g).tmps[s]? := fun g s hs => (hfin g w hC0).2.2.2 s fun j oj _ hj hd => by
    rw [get'] at hj
    cases hjj : l.toArray[j]? with
    | none => rw [hjj] at hj; cases hj
    | some o' =>
      rw [hjj] at hj
      simp only [Option.map_some, Option.some.injEq] at hj
      exact hs j o' hjj (by rw [← hd, ← hj]; exact (hdst g j o').symm)
  have hquiet : ∀ (g : Nat → Gh) (i : Nat) (o : Oper), i ∉ sp → l.toArray[i]? = some o → ∀ u, C u → ∃ v, YieldsIn P l.toArray (above u) o v (af g) ∧ ∀ s, o.dst = some s → s < (af g).tmps.size → (af g).tmps[s]? = some v := by
    intro g i o hi ho u hu
    have hc : sp.contains i = false := by simpa using hi
    have ho' : (mixL sp mk g 0 l).toArray[i]? = some o := by
      rw [get', ho]
      simp [hi]
    obtain ⟨v, hy, hv⟩ := (hfin g u hu).1 i o (Nat.zero_le _) ho'
    refine ⟨v, ?_, hv⟩
    rw [above_grew]
    unfold YieldsIn at *
    rwa [hwt] at hy
  have hres : ∀ (g : Nat → Gh) (j : Nat) (o : Oper) (d : Nat), j ∈ sp → l.toArray[j]? = some o → o.dst = some d → d < (af g).tmps.size → (af g).tmps[d]? = some (mk j (g j)) := by
    intro g j o d hj ho hd hlt
    have hc : sp.contains j = true := by simpa using hj
    have ho' : (mixL sp mk g 0 l).toArray[j]? = some (yieldsC (mk j (g j)) o) := by
      rw [get', ho]
      simp [hj]
    obtain ⟨v, hy, hv⟩ := (hfin g w hC0).1 j _ (Nat.zero_le _) ho'
    have := hv d hd hlt
    rw [this]
    rcases hy with ⟨_, h2⟩ | ⟨h1, _⟩
    · have h3 := h2 w ⟨⟨w, Below.refl _ _⟩, rfl⟩
      unfold Oper.quietAt at h3
      have h4 : (execOp (af g).eval (yieldsC (mk j (g j)) o)).run P w = .ok (.value (mk j (g j))) w := by unfold execOp yieldsC; rfl
      rw [h4] at h3
      simp only [Oper.quietUpon] at h3
      rw [h3.2]
    · unfold Region.wanted at h1
      rw [show (yieldsC (mk j (g j)) o).guard = none from hgn j hj o ho] at h1
      cases h1
  have hcone : ∀ (L : Nat → Bool), (∀ (i : Nat) (o : Oper), l.toArray[i]? = some o → L i = true → ∀ e ∈ o.after, Region.binds .any e = true → L e.on = true) → ∀ j, L j = false → ∀ d ∈ coneS l.toArray j 0 l [], ∃ (i : Nat) (o : Oper), l.toArray[i]? = some o ∧ o.dst = some d ∧ L i = false := by
    intro L hcl j hj
    refine coneS_spec (G := fun d => ∃ (i : Nat) (o : Oper), l.toArray[i]? = some o ∧ o.dst = some d ∧ L i = false) ?_ l 0 [] (fun k => by simp) (fun d hd => by simp at hd)
    intro i o d ho hd hor
    refine ⟨i, o, ho, hd, ?_⟩
    rcases hor with rfl | ⟨s, hs, i', o', ho', hd', hL⟩
    · exact hj
    · obtain ⟨_, e, he, hb, hon⟩ := H.look i o s i' o' ho hs ho' hd'
      cases hLi : L i with
      | false => rfl
      | true =>
        have := hcl i o ho hLi e he hb
        rw [hon, hL] at this
        cases this
  have hone : ∀ (listed : Array Bool) (a : Act) (x : World), listed.size = l.toArray.size → MixInv l.toArray C J af listed a x → Region.ready .any l.toArray listed = [] → Q .normal a x := by
    rintro listed a x hz ⟨hb, -, g, hag, hJ⟩ hr
    have hu := all_up H hz hr
    rw [agree_all hag hu]
    have : (fun j => listed.getD j true) = fun _ => true := funext fun j => by
      by_cases hj : j < l.toArray.size
      · exact hu j hj
      · simp [Array.getElem?_eq_none (show listed.size ≤ j by omega)]
    rw [this] at hJ
    exact hend g x hJ hb (hCw _ hb)
  have hstep : ∀ (listed : Array Bool) (a : Act) (x : World) (i : Nat), i ∈ Region.ready .any l.toArray listed → MixInv l.toArray C J af listed a x → wpOp P l.toArray Q i (fun a' x' => MixInv l.toArray C J af (listed.setIfInBounds i true) a' x') a x := by
    rintro listed a x i hi ⟨hb, hcl, g, hag, hJ⟩
    obtain ⟨hiu, o, ho, hall⟩ := mem_ready.1 hi
    have hlk := agree_look H hag ho hi
    have hcl' : ∀ (i' : Nat) (o' : Oper), l.toArray[i']? = some o' → (listed.setIfInBounds i true).getD i' true = true → ∀ e ∈ o'.after, Region.binds .any e = true → (listed.setIfInBounds i true).getD e.on true = true := by
      intro i' o' ho' hL e he hbd
      have key : listed.getD e.on true = true := by
        by_cases hii : i = i'
        · subst hii
          obtain rfl : o = o' := Option.some.inj (ho.symm.trans ho')
          exact getD_tt (hall e he hbd)
        · rw [getD_set_ne true hii] at hL
          exact hcl i' o' ho' hL e he hbd
      by_cases hon : i = e.on
      · rw [hon, set_self]
      · rw [getD_set_ne true hon]; exact key
    by_cases hisp : i ∈ sp
    · have hg := hgn i hisp o ho
      have hd := hsp i hisp o (by simpa using ho) _ g x hJ hb (hCw _ hb) hiu (fun e he hbd => getD_tt (hall e he hbd))
      rw [← exec_same (hsel i o · · ho) hlk] at hd
      unfold wpOp
      simp only [ho]
      have hwn : Region.wanted o (yielded l.toArray a.tmps) = true := by unfold Region.wanted; rw [hg]
      rw [if_pos hwn]
      refine .inl (wp_does hd ?_)
      rintro v x' ⟨hb', hK⟩
      refine ⟨hb', hcl', ?_⟩
      rw [setL_listed]
      rcases hK with ⟨hdn, hJ'⟩ | ⟨h, rfl, hJ'⟩
      · exact ⟨g, agree_put H hag ho (fun s hs => by rw [hdn] at hs; cases hs), hJ'⟩
      · refine ⟨upd g i h, ⟨by rw [put_size]; exact hag.1.trans ((hsz g).symm.trans (hsz _)), by rw [put_defers]; exact hag.2.1.trans ((hdf g).symm.trans (hdf _)), fun s hs => ?_⟩, hJ'⟩
        by_cases hds : o.dst = some s
        · rw [hds]
          by_cases hlt : s < (af (upd g i h)).tmps.size
          · rw [put_at (by rw [hag.1, ← hsz g, hsz (upd g i h)]; exact hlt), hres _ i o s hisp ho hds hlt]
            unfold upd
            rw [if_pos rfl]
          · rw [put_out (by rw [hag.1, ← hsz g, hsz (upd g i h)]; exact hlt), Array.getElem?_eq_none (by omega)]
        · rw [put_get hds]
          have hs' : ∀ (j : Nat) (oj : Oper), l.toArray[j]? = some oj → oj.dst = some s → listed.getD j true = true := fun j oj hj hdj => by
            have hij : i ≠ j := by
              rintro rfl
              obtain rfl : o = oj := Option.some.inj (ho.symm.trans hj)
              exact hds hdj
            have := hs j oj hj hdj
            rwa [getD_set_ne true hij] at this
          rw [hag.2.2 s hs']
          refine maskL_same (hind i hisp g h) fun hc => ?_
          obtain ⟨j, oj, hj, hdj, hL⟩ := hcone (fun j => listed.getD j true) hcl i hiu s hc
          have := hs' j oj hj hdj
          rw [this] at hL
          cases hL
    · obtain ⟨v, hy, hv⟩ := hquiet g i o hisp ho x hb
      have hy' := yields_same (hsel i o · · ho) (fun s hs => (hlk s hs).symm) hy
      refine wp_yields ho hy' (Below.refl _ _) fun x' hx' => ⟨hCs _ _ hb hx', hcl', g, agree_put H hag ho hv, ?_⟩
      refine hst _ _ g x x' (fun j hj => ?_) hJ hx'
      have hij : i ≠ j := by rintro rfl; exact hisp hj
      rw [getD_set_ne true hij]
  have hloop : ∀ (f : Nat) (listed : Array Bool) (a : Act) (x : World), listed.size = l.toArray.size → unlisted l.toArray.size listed ≤ f → MixInv l.toArray C J af listed a x → wpAny P .any l.toArray Q f listed a x := by
    intro f
    induction f with
    | zero =>
      intro listed a x hz hf h
      have hr : Region.ready .any l.toArray listed = [] := by
        rw [List.eq_nil_iff_forall_not_mem]
        intro i hi
        obtain ⟨hiu, o, ho, _⟩ := mem_ready.1 hi
        have := unlisted_set (n := l.toArray.size) (lt_of_some ho) hiu
        omega
      exact ⟨hr, hone listed a x hz h hr⟩
    | succ f ih =>
      intro listed a x hz hf h
      refine ⟨fun hr => hone listed a x hz h hr, fun i hi => ?_⟩
      obtain ⟨hiu, o, ho, _⟩ := mem_ready.1 hi
      have hl := unlisted_set (n := l.toArray.size) (lt_of_some ho) hiu
      exact wpOp_mono (fun a' x' h' => ih _ a' x' (by simpa using hz) (by omega) h') (hstep listed a x i hi h)
  have hL0 : ∀ j, j < l.length → (Array.replicate l.toArray.size false).getD j true = false := fun j hj => by simp [hj]
  refine wp_region_any hm (hloop _ _ _ _ (by simp) ?_ ⟨hCs _ _ hC0 (Below.refl _ w).drew, fun i o ho hL => ?_, fun _ => Gh.zero, ⟨hsz _, hdf _, fun s hs => ?_⟩, ?_⟩)
  · unfold unlisted
    exact Nat.le_trans (List.length_filter_le _ _) (by simp)
  · have hlt := lt_of_some ho
    simp only [List.size_toArray] at hlt
    rw [hL0 i hlt] at hL
    cases hL
  · refine hun _ s fun j oj hj hd => ?_
    have := hs j oj hj hd
    have hlt := lt_of_some hj
    simp only [List.size_toArray] at hlt
    rw [hL0 j hlt] at this
    cases this
  · refine hst _ _ _ w _ (fun _ _ => rfl) (h0 _ fun j hj => ?_) (Below.refl _ w).drew
    have : ∃ o, l.toArray[j]? = some o := by
      unfold spB at hN
      have := List.all_eq_true.1 hN j hj
      cases ho : l.toArray[j]? with
      | none => rw [ho] at this; cases this
      | some o => exact ⟨o, rfl⟩
    obtain ⟨o, ho⟩ := this
    have hlt := lt_of_some ho
    simp only [List.size_toArray] at hlt
    exact hL0 j hlt
theorem region_mix {id : Nat} {Q : Exit → Act → World → Prop} {a0 : Act} {w : World} {l : List Oper} (w0 : World) (sp : List Nat) (mk : Nat → Gh → Value) (J : (Nat → Bool) → (Nat → Gh) → World → Prop) (af : (Nat → Gh) → Act) (hm : P.follows .mixedOrders = true)
    (hB : slotsOk l.toArray = true) (hB' : ∀ g, slotsOk (mixL sp mk g 0 l).toArray = true) (hS : Region.noSelect l.toArray = true) (hN : spB l.toArray sp = true) (hw : Below w0.heap.size w0 w)
    (h0 : ∀ L, (∀ j ∈ sp, L j = false) → J L (fun _ => Gh.zero) w)
    (hst : ∀ L L' g x x', (∀ j ∈ sp, L' j = L j) → J L g x → Below x.heap.size x x' → J L' g x')
    (hq : ∀ g u, Below w.heap.size w u → (∀ (x : Grew u) (b o : Nat), b < u.heap.size → x.val.cell? ⟨b, o, none⟩ = u.cell? ⟨b, o, none⟩) → Hid (∀ x : Grew u, Below w0.heap.size w0 x.val) → Hid (∀ x : Grew u, Below w.heap.size w x.val) →
      wpQuiet P (mixL sp mk g 0 l).toArray (fun w' => ∃ x : Grew u, w' = x.val) (fun a' => a' = af g) (mixL sp mk g 0 l) a0)
    (hind : ∀ j ∈ sp, ∀ g h, maskL (coneS l.toArray j 0 l []) 0 (af g).tmps.toList = maskL (coneS l.toArray j 0 l []) 0 (af (upd g j h)).tmps.toList)
    (hsp : ∀ j ∈ sp, ∀ o, l[j]? = some o → ∀ (L : Nat → Bool) (g : Nat → Gh) (x : World), J L g x → Below w.heap.size w x → Below w0.heap.size w0 x → L j = false → (∀ e ∈ o.after, Region.binds .any e = true → L e.on = true) →
      Does P (fun v x' => Below w.heap.size w x' ∧ ((o.dst = none ∧ J (setL L j) g x') ∨ ∃ h, v = mk j h ∧ J (setL L j) (upd g j h) x')) ((execOp (af g).eval o).run P x))
    (hend : ∀ g x, J (fun _ => true) g x → Below w.heap.size w x → Below w0.heap.size w0 x → Q .normal (af g) x) :
    (Code.region id l.toArray true).wp P Q a0 w :=
  region_mixC w0 (fun x => Below w.heap.size w x) sp mk J af hm hB hB' hS hN (Below.refl _ w) (fun _ _ h h' => via h h') (fun _ h => via hw h) h0 hst hq hind hsp hend
end
end Go.Proofs

namespace Go.Proofs
open Go.RowKit

/-- A world in which block 'b' alone is another one. -/
structure OnlyB (b : Nat) (x x' : World) : Prop where
  below : ∀ n, n ≤ b → Below n x x'
  other : ∀ k, k ≠ b → x'.heap[k]? = x.heap[k]?
theorem OnlyB.refl (b : Nat) (x : World) : OnlyB b x x := ⟨fun n _ => Below.refl n x, fun _ _ => rfl⟩
theorem OnlyB.set {b : Nat} {x x' : World} (h : OnlyB b x x') (o : Nat) (u : Value) : OnlyB b x (x'.setCell ⟨b, o, none⟩ u) :=
  ⟨fun n hn => (h.below n hn).setCell hn u, fun k hk => (Below.heap_setCell x' ⟨b, o, none⟩ u k hk).trans (h.other k hk)⟩
theorem OnlyB.keep {b : Nat} {x x' : World} (h : OnlyB b x x') {k : Nat} {o : Obj} (hk : k ≠ b) (hx : x.heap[k]? = some o) : x'.heap[k]? = some o := (h.other k hk).trans hx

def NewAt (w : World) (m k : Nat) (z z' : Obj) (L : Nat → Bool) (g : Nat → Gh) (x : World) : Prop :=
  (L m = false → L k = false) ∧ (L m = true → w.heap.size ≤ (g m).b ∧ x.heap[(g m).b]? = some (if L k = true then z' else z))
theorem NewAt.keep {w : World} {m k : Nat} {z z' : Obj} {L L' : Nat → Bool} {g g' : Nat → Gh} {x x' : World} (h : NewAt w m k z z' L g x) (hm : L' m = L m) (hk : L' k = L k) (hg : g' m = g m) (hx : ∀ o, w.heap.size ≤ (g m).b → x.heap[(g m).b]? = some o → x'.heap[(g m).b]? = some o) : NewAt w m k z z' L' g' x' := by
  unfold NewAt at *
  rw [hm, hk, hg]
  exact ⟨h.1, fun hl => ⟨(h.2 hl).1, hx _ (h.2 hl).1 (h.2 hl).2⟩⟩
theorem setL_ne {L : Nat → Bool} {j k : Nat} (h : k ≠ j) : setL L j k = L k := by
  unfold setL
  have : (k == j) = false := by simpa using h
  rw [this, Bool.false_or]
theorem setL_self {L : Nat → Bool} {j : Nat} : setL L j j = true := by simp [setL]
theorem upd_ne {g : Nat → Gh} {j k : Nat} {h : Gh} (hk : k ≠ j) : upd g j h k = g k := by unfold upd; rw [if_neg hk]
theorem upd_self {g : Nat → Gh} {j : Nat} {h : Gh} : upd g j h j = h := by unfold upd; rw [if_pos rfl]
def mkP : Nat → Gh → Value := fun _ h => .pointer (some ⟨h.b, 0, none⟩)

section
variable {P : Program}
/-- What must hold of the operation that makes a block, and of the one that writes into it. -/
def twoB (ops : Array Oper) (m k d : Nat) : Bool :=
  (match ops[m]? with | some o => o.dst == some d | none => false) && (match ops[k]? with | some o => o.dst.isNone && o.after.any (fun e => Region.binds .any e && e.on == m) | none => false)

theorem region_two {id : Nat} {Q : Exit → Act → World → Prop} {a0 : Act} {w : World} {l : List Oper} (w0 : World) (m1 k1 m2 k2 : Nat) (z1 y1 z2 y2 : Obj) (af : (Nat → Gh) → Act) (hm : P.follows .mixedOrders = true)
    (hB : slotsOk l.toArray = true) (hB' : ∀ g, slotsOk (mixL [m1, k1, m2, k2] mkP g 0 l).toArray = true) (hS : Region.noSelect l.toArray = true) (hN : spB l.toArray [m1, k1, m2, k2] = true)
    (hne : m1 ≠ k1 ∧ m1 ≠ m2 ∧ m1 ≠ k2 ∧ k1 ≠ m2 ∧ k1 ≠ k2 ∧ m2 ≠ k2)
    (ht : (match l[k1]? with | some o => o.dst.isNone && o.after.any (fun e => Region.binds .any e && e.on == m1) | none => false) = true)
    (ht2 : (match l[k2]? with | some o => o.dst.isNone && o.after.any (fun e => Region.binds .any e && e.on == m2) | none => false) = true)
    (hw : Below w0.heap.size w0 w)
    (hal1 : ∀ o, l[m1]? = some o → ∀ (a : Act) (x : World), (execOp a.eval o).run P x = .ok (.value (.pointer (some ⟨x.heap.size, 0, none⟩))) (x.alloc z1))
    (hal2 : ∀ o, l[m2]? = some o → ∀ (a : Act) (x : World), (execOp a.eval o).run P x = .ok (.value (.pointer (some ⟨x.heap.size, 0, none⟩))) (x.alloc z2))
    (hq : ∀ g u, Below w.heap.size w u → (∀ (x : Grew u) (b o : Nat), b < u.heap.size → x.val.cell? ⟨b, o, none⟩ = u.cell? ⟨b, o, none⟩) → Hid (∀ x : Grew u, Below w0.heap.size w0 x.val) → Hid (∀ x : Grew u, Below w.heap.size w x.val) →
      wpQuiet P (mixL [m1, k1, m2, k2] mkP g 0 l).toArray (fun w' => ∃ x : Grew u, w' = x.val) (fun a' => a' = af g) (mixL [m1, k1, m2, k2] mkP g 0 l) a0)
    (hind : ∀ j ∈ [m1, k1, m2, k2], ∀ g h, maskL (coneS l.toArray j 0 l []) 0 (af g).tmps.toList = maskL (coneS l.toArray j 0 l []) 0 (af (upd g j h)).tmps.toList)
    (hs1 : ∀ o, l[k1]? = some o → ∀ (g : Nat → Gh) (x : World), Below w.heap.size w x → x.heap[(g m1).b]? = some z1 → ∃ x', (execOp (af g).eval o).run P x = .ok .skip x' ∧ OnlyB (g m1).b x x' ∧ x'.heap[(g m1).b]? = some y1)
    (hs2 : ∀ o, l[k2]? = some o → ∀ (g : Nat → Gh) (x : World), Below w.heap.size w x → x.heap[(g m2).b]? = some z2 → ∃ x', (execOp (af g).eval o).run P x = .ok .skip x' ∧ OnlyB (g m2).b x x' ∧ x'.heap[(g m2).b]? = some y2)
    (hend : ∀ (g : Nat → Gh) (x : World), w.heap.size ≤ (g m1).b → w.heap.size ≤ (g m2).b → (g m1).b ≠ (g m2).b → Below w.heap.size w x → Below w0.heap.size w0 x → x.heap[(g m1).b]? = some y1 → x.heap[(g m2).b]? = some y2 → Q .normal (af g) x) :
    (Code.region id l.toArray true).wp P Q a0 w := by
  obtain ⟨n1, n2, n3, n4, n5, n6⟩ := hne
  refine region_mix w0 [m1, k1, m2, k2] mkP (fun L g x => NewAt w m1 k1 z1 y1 L g x ∧ NewAt w m2 k2 z2 y2 L g x ∧ (L m1 = true → L m2 = true → (g m1).b ≠ (g m2).b)) af hm hB hB' hS hN hw ?_ ?_ hq hind ?_ ?_
  · intro L h
    have a1 := h m1 (by simp)
    have a2 := h k1 (by simp)
    have a3 := h m2 (by simp)
    have a4 := h k2 (by simp)
    refine ⟨⟨fun _ => a2, fun h => ?_⟩, ⟨fun _ => a4, fun h => ?_⟩, fun h => ?_⟩
    · rw [a1] at h; cases h
    · rw [a3] at h; cases h
    · rw [a1] at h; cases h
  · rintro L L' g x x' h ⟨h1, h2, h3⟩ hb
    have a1 := h m1 (by simp)
    have a2 := h k1 (by simp)
    have a3 := h m2 (by simp)
    have a4 := h k2 (by simp)
    refine ⟨h1.keep a1 a2 rfl (fun o _ h => bk_keep hb h), h2.keep a3 a4 rfl (fun o _ h => bk_keep hb h), ?_⟩
    rw [a1, a3]
    exact h3
  · intro j hj o ho L g x ⟨h1, h2, h3⟩ hbx hb0 hL hafter
    simp only [List.mem_cons, List.not_mem_nil, or_false] at hj
    have after : ∀ {m : Nat}, (o.dst.isNone && o.after.any (fun e => Region.binds .any e && e.on == m)) = true → o.dst = none ∧ L m = true := fun {m} h => by
      simp only [Bool.and_eq_true, Option.isNone_iff_eq_none] at h
      obtain ⟨e, he, hb⟩ := Array.any_eq_true'.1 h.2
      simp only [Bool.and_eq_true, beq_iff_eq] at hb
      have := hafter e he hb.1
      rw [hb.2] at this
      exact ⟨h.1, this⟩
    rcases hj with rfl | rfl | rfl | rfl
    · refine does_value (hal1 o ho _ x) ⟨via_alloc hbx _, .inr ⟨{ Gh.zero with b := x.heap.size }, rfl, ?_, ?_, ?_⟩⟩
      · refine ⟨(fun h => by rw [setL_self] at h; cases h), fun _ => ?_⟩
        rw [upd_self]
        refine ⟨hbx.size, ?_⟩
        rw [setL_ne (Ne.symm n1), h1.1 hL]
        exact bk_new _ _ rfl
      · exact h2.keep (setL_ne (Ne.symm n2)) (setL_ne (Ne.symm n3)) (upd_ne (Ne.symm n2)) (fun o _ h => bk_alloc h _)
      · intro _ hl
        rw [setL_ne (Ne.symm n2)] at hl
        rw [upd_self, upd_ne (Ne.symm n2)]
        have := bk_size (h2.2 hl).2
        dsimp only
        omega
    · rw [ho] at ht
      obtain ⟨hd, hml⟩ := after ht
      obtain ⟨p1, p2⟩ := h1.2 hml
      rw [if_neg (by rw [hL]; decide)] at p2
      obtain ⟨x', r1, r2, r3⟩ := hs1 o ho g x hbx p2
      refine does_skip r1 ⟨hbx.trans (r2.below _ p1), .inl ⟨hd, ?_, ?_, ?_⟩⟩
      · refine ⟨(fun h => by rw [setL_ne n1, hml] at h; cases h), fun _ => ⟨p1, ?_⟩⟩
        rw [setL_self]
        exact r3
      · by_cases hl2 : L m2 = true
        · exact h2.keep (setL_ne (Ne.symm n4)) (setL_ne (Ne.symm n5)) rfl (fun o _ h => r2.keep (Ne.symm (h3 hml hl2)) h)
        · refine ⟨fun _ => ?_, fun h => ?_⟩
          · rw [setL_ne (Ne.symm n5)]
            exact h2.1 (by simpa using hl2)
          · rw [setL_ne (Ne.symm n4)] at h
            exact (hl2 h).elim
      · rw [setL_ne n1, setL_ne (Ne.symm n4)]
        exact h3
    · refine does_value (hal2 o ho _ x) ⟨via_alloc hbx _, .inr ⟨{ Gh.zero with b := x.heap.size }, rfl, ?_, ?_, ?_⟩⟩
      · exact h1.keep (setL_ne n2) (setL_ne n4) (upd_ne n2) (fun o _ h => bk_alloc h _)
      · refine ⟨(fun h => by rw [setL_self] at h; cases h), fun _ => ?_⟩
        rw [upd_self]
        refine ⟨hbx.size, ?_⟩
        rw [setL_ne (Ne.symm n6), h2.1 hL]
        exact bk_new _ _ rfl
      · intro hl _
        rw [setL_ne n2] at hl
        rw [upd_self, upd_ne n2]
        have := bk_size (h1.2 hl).2
        dsimp only
        omega
    · rw [ho] at ht2
      obtain ⟨hd, hml⟩ := after ht2
      obtain ⟨p1, p2⟩ := h2.2 hml
      rw [if_neg (by rw [hL]; decide)] at p2
      obtain ⟨x', r1, r2, r3⟩ := hs2 o ho g x hbx p2
      refine does_skip r1 ⟨hbx.trans (r2.below _ p1), .inl ⟨hd, ?_, ?_, ?_⟩⟩
      · by_cases hl1 : L m1 = true
        · exact h1.keep (setL_ne n3) (setL_ne n5) rfl (fun o _ h => r2.keep (h3 hl1 hml) h)
        · refine ⟨fun _ => ?_, fun h => ?_⟩
          · rw [setL_ne n5]
            exact h1.1 (by simpa using hl1)
          · rw [setL_ne n3] at h
            exact (hl1 h).elim
      · refine ⟨(fun h => by rw [setL_ne n6, hml] at h; cases h), fun _ => ⟨p1, ?_⟩⟩
        rw [setL_self]
        exact r3
      · rw [setL_ne n3, setL_ne n6]
        exact h3
  · rintro g x ⟨h1, h2, h3⟩ hbx hb0
    obtain ⟨p1, p2⟩ := h1.2 rfl
    obtain ⟨q1, q2⟩ := h2.2 rfl
    exact hend g x p1 q1 (h3 rfl rfl) hbx hb0 p2 q2
end
theorem run_store2 {P : Program} {f : Operand → Value} {o : Oper} {t ty : TypeId} {p q : Operand} {b : Nat} {v0 v1 u0 u1 : Value} {x : World} (ho : o.op = .store t p q) (h0 : v0.oneCell' = true) (h1 : v1.oneCell' = true) (hsz : Sem.run P (sizeOf t) x = .ok 2 x) (hp : f p = .pointer (some ⟨b, 0, none⟩)) (hq : f q = .agg #[v0, v1]) (hz : x.heap[b]? = some (.cells #[u0, u1] ty (0, 0))) :
    (execOp f o).run P x = .ok .skip ((x.setCell ⟨b, 0, none⟩ v0).setCell ⟨b, 1, none⟩ v1) := by
  have Cz := bk2 hz
  unfold execOp
  rw [ho]
  simp [go_sem, hp, hq, Cz, hsz, run_store _ _ _ v0 _ h0, run_store _ _ _ v1 _ h1]
theorem run_store3 {P : Program} {f : Operand → Value} {o : Oper} {t ty : TypeId} {p q : Operand} {b : Nat} {v0 v1 v2 u0 u1 u2 : Value} {x : World} (ho : o.op = .store t p q) (h0 : v0.oneCell' = true) (h1 : v1.oneCell' = true) (h2 : v2.oneCell' = true) (hsz : Sem.run P (sizeOf t) x = .ok 3 x) (hp : f p = .pointer (some ⟨b, 0, none⟩)) (hq : f q = .agg #[v0, v1, v2]) (hz : x.heap[b]? = some (.cells #[u0, u1, u2] ty (0, 0))) :
    (execOp f o).run P x = .ok .skip (((x.setCell ⟨b, 0, none⟩ v0).setCell ⟨b, 1, none⟩ v1).setCell ⟨b, 2, none⟩ v2) := by
  have Cz := bk3 hz
  unfold execOp
  rw [ho]
  simp [go_sem, hp, hq, Cz, hsz, run_store _ _ _ v0 _ h0, run_store _ _ _ v1 _ h1, run_store _ _ _ v2 _ h2]
theorem run_store4 {P : Program} {f : Operand → Value} {o : Oper} {t ty : TypeId} {p q : Operand} {b : Nat} {v0 v1 v2 v3 u0 u1 u2 u3 : Value} {x : World} (ho : o.op = .store t p q) (h0 : v0.oneCell' = true) (h1 : v1.oneCell' = true) (h2 : v2.oneCell' = true) (h3 : v3.oneCell' = true) (hsz : Sem.run P (sizeOf t) x = .ok 4 x) (hp : f p = .pointer (some ⟨b, 0, none⟩)) (hq : f q = .agg #[v0, v1, v2, v3]) (hz : x.heap[b]? = some (.cells #[u0, u1, u2, u3] ty (0, 0))) :
    (execOp f o).run P x = .ok .skip ((((x.setCell ⟨b, 0, none⟩ v0).setCell ⟨b, 1, none⟩ v1).setCell ⟨b, 2, none⟩ v2).setCell ⟨b, 3, none⟩ v3) := by
  have Cz := bk4 hz
  unfold execOp
  rw [ho]
  simp [go_sem, hp, hq, Cz, hsz, run_store _ _ _ v0 _ h0, run_store _ _ _ v1 _ h1, run_store _ _ _ v2 _ h2, run_store _ _ _ v3 _ h3]
end Go.Proofs

namespace Go.Proofs
open Go.RowKit
section
variable {P : Program}
/-- A drawn region in a call that began in 'w0': quiet operations; a call 'c' that hands back memory ('mkc', of which 'Pr' holds); a call 'q' behind it that takes it, and hands back 'mkq' (of which 'Pq' holds). -/
theorem region_cpq {id : Nat} {Q : Exit → Act → World → Prop} {a0 : Act} {w : World} {l : List Oper} (w0 : World) (c q : Nat) (mkc mkq : Gh → Value) (Pr Pq : Gh → World → Prop) (af : (Nat → Gh) → Act) (hm : P.follows .mixedOrders = true)
    (hB : slotsOk l.toArray = true) (hB' : ∀ g, slotsOk (mixL [c, q] (fun j h => if j == c then mkc h else mkq h) g 0 l).toArray = true) (hS : Region.noSelect l.toArray = true) (hN : spB l.toArray [c, q] = true) (hne : q ≠ c)
    (ht : (match l[q]? with | some o => o.after.any (fun e => Region.binds .any e && e.on == c) | none => false) = true)
    (hw : Below w0.heap.size w0 w)
    (hs1 : ∀ h x x', Pr h x → Below x.heap.size x x' → Pr h x') (hs2 : ∀ h x x', Pq h x → Below x.heap.size x x' → Pq h x')
    (hq : ∀ g u, Below w.heap.size w u → (∀ (x : Grew u) (b o : Nat), b < u.heap.size → x.val.cell? ⟨b, o, none⟩ = u.cell? ⟨b, o, none⟩) → Hid (∀ x : Grew u, Below w0.heap.size w0 x.val) → Hid (∀ x : Grew u, Below w.heap.size w x.val) →
      wpQuiet P (mixL [c, q] (fun j h => if j == c then mkc h else mkq h) g 0 l).toArray (fun w' => ∃ x : Grew u, w' = x.val) (fun a' => a' = af g) (mixL [c, q] (fun j h => if j == c then mkc h else mkq h) g 0 l) a0)
    (hind : ∀ j ∈ [c, q], ∀ g h, maskL (coneS l.toArray j 0 l []) 0 (af g).tmps.toList = maskL (coneS l.toArray j 0 l []) 0 (af (upd g j h)).tmps.toList)
    (hcp : ∀ o, l[c]? = some o → ∀ (g : Nat → Gh) (x : World), Below w.heap.size w x → Below w0.heap.size w0 x → ∃ f args, (execOp (af g).eval o).run P x = .ok (.enter f args) x ∧ Calls P f args x fun e x' => ∃ h, e = .returned (mkc h) ∧ Pr h x' ∧ Below x.heap.size x x')
    (hcl : ∀ o, l[q]? = some o → ∀ (g : Nat → Gh) (x : World), Below w.heap.size w x → Below w0.heap.size w0 x → Pr (g c) x → ∃ f args, (execOp (af g).eval o).run P x = .ok (.enter f args) x ∧ Calls P f args x fun e x' => ∃ h, e = .returned (mkq h) ∧ Pq h x' ∧ Below x.heap.size x x')
    (hend : ∀ (g : Nat → Gh) (x : World), Below w.heap.size w x → Below w0.heap.size w0 x → Pq (g q) x → Q .normal (af g) x) :
    (Code.region id l.toArray true).wp P Q a0 w := by
  refine region_mix w0 [c, q] (fun j h => if j == c then mkc h else mkq h) (fun L g x => (L c = true → Pr (g c) x) ∧ (L q = true → Pq (g q) x)) af hm hB hB' hS hN hw ?_ ?_ hq hind ?_ ?_
  · intro L h
    have a1 := h c (by simp)
    have a2 := h q (by simp)
    exact ⟨fun h => (by rw [a1] at h; cases h), fun h => (by rw [a2] at h; cases h)⟩
  · rintro L L' g x x' h ⟨h1, h2⟩ hb
    rw [h c (by simp), h q (by simp)]
    exact ⟨fun h => hs1 _ _ _ (h1 h) hb, fun h => hs2 _ _ _ (h2 h) hb⟩
  · intro j hj o ho L g x ⟨h1, h2⟩ hbx hb0 hL hafter
    simp only [List.mem_cons, List.not_mem_nil, or_false] at hj
    rcases hj with rfl | rfl
    · obtain ⟨f, args, r1, r2⟩ := hcp o ho g x hbx hb0
      refine does_enter r1 (r2.mono ?_)
      rintro e x' ⟨h, rfl, hp, hb⟩
      refine ⟨_, rfl, via hbx hb, .inr ⟨h, by simp, fun _ => ?_, fun hl => ?_⟩⟩
      · rw [upd_self]; exact hp
      · rw [setL_ne hne] at hl
        rw [upd_ne hne]
        exact hs2 _ _ _ (h2 hl) hb
    · rw [ho] at ht
      obtain ⟨e, he, hb⟩ := Array.any_eq_true'.1 ht
      simp only [Bool.and_eq_true, beq_iff_eq] at hb
      have hc := hafter e he hb.1
      rw [hb.2] at hc
      obtain ⟨f, args, r1, r2⟩ := hcl o ho g x hbx hb0 (h1 hc)
      refine does_enter r1 (r2.mono ?_)
      rintro e x' ⟨h, rfl, hp, hb⟩
      refine ⟨_, rfl, via hbx hb, .inr ⟨h, by simp [hne], fun hl => ?_, fun _ => ?_⟩⟩
      · rw [upd_ne (Ne.symm hne)]
        exact hs1 _ _ _ (h1 hc) hb
      · rw [upd_self]; exact hp
  · rintro g x ⟨h1, h2⟩ hbx hb0
    exact hend g x hbx hb0 (h2 rfl)
end
end Go.Proofs

set_option linter.unusedSimpArgs false
set_option linter.unusedVariables false
namespace Go.Proofs
open Go.RowKit

theorem grown_none_of {W W' : World} (hb : Below W.heap.size W W') : W.grownBy W' none := ⟨hb.os, hb.tape, hb.output, hb.size, fun k hk _ => hb.block k hk⟩
theorem grown_below' {w x x' : World} {row : Option Nat} (h : Below w.heap.size w x) (hg : x.grownBy x' row) (hr : ∀ b, row = some b → w.heap.size ≤ b) : Below w.heap.size w x' := h.grown hg h.size hr
/-! A struct of many cells, stored and loaded whole. -/
section
variable {P : Program}
theorem run_store_one (v : Value) (hv : v.oneCell' = true) (x : World) (b o : Nat) (u : Value) (hc : x.cell? ⟨b, o, none⟩ = some u) (hf : x.frozen? ⟨b, o, none⟩ = false) : (store ⟨b, o, none⟩ v).run P x = .ok () (x.setCell ⟨b, o, none⟩ v) := by
  cases v <;> first | (simp [Value.oneCell'] at hv; done) | simp [store, Sem.run, hc, hf]
theorem run_storeCells (b : Nat) (T : TypeId) : ∀ (vs : List Value) (i : Nat) (cs : List Value) (x : World), x.heap[b]? = some (.cells cs.toArray T (0, 0)) → i + vs.length ≤ cs.length → (∀ u ∈ vs, u.oneCell' = true) →
    ∃ x', (storeCells ⟨b, 0, none⟩ vs i).run P x = .ok () x' ∧ x'.heap[b]? = some (.cells (cs.take i ++ vs ++ cs.drop (i + vs.length)).toArray T (0, 0)) ∧ x.grownBy x' (some b) ∧ x'.heap.size = x.heap.size
  | [], i, cs, x, hx, _, _ => ⟨x, by simp [storeCells, Sem.run, pure], by simpa using hx, ⟨rfl, rfl, rfl, Nat.le_refl _, fun _ _ _ => rfl⟩, rfl⟩
  | v :: vs, i, cs, x, hx, hl, h1 => by
    simp only [List.length_cons] at hl
    have hc : x.cell? ⟨b, i, none⟩ = some (cs[i]'(by omega)) := by
      unfold World.cell?
      simp only [hx]
      simp [List.getElem?_eq_getElem (show i < cs.length by omega)]
    have hf : x.frozen? ⟨b, i, none⟩ = false := by
      unfold World.frozen?
      simp only [hx]
      simp
    have hs := run_store_one (P := P) v (h1 v (by simp)) x b i _ hc hf
    have hx2 : (x.setCell ⟨b, i, none⟩ v).heap[b]? = some (.cells (cs.set i v).toArray T (0, 0)) := bk_here hx v (by simp)
    obtain ⟨x', r1, r2, r3, r4⟩ := run_storeCells b T vs (i + 1) (cs.set i v) _ hx2 (by simp; omega) fun u hu => h1 u (by simp [hu])
    refine ⟨x', ?_, ?_, ?_, by rw [r4]; simp⟩
    · unfold storeCells
      have e : (⟨b, 0, none⟩ : Addr).add i = ⟨b, i, none⟩ := by unfold Addr.add; split <;> simp_all
      rw [e]
      simp only [Sem.run_bind, hs, Result.andThen_ok]
      exact r1
    · rw [r2]
      congr 2
      apply congrArg
      have e1 : (cs.set i v).take (i + 1) = cs.take i ++ [v] := by
        rw [List.take_add_one, List.getElem?_set_self (by omega), List.take_set]
        rw [List.set_eq_of_length_le (by simp [Nat.min_le_left])]
        rfl
      have e2 : (cs.set i v).drop (i + 1 + vs.length) = cs.drop (i + 1 + vs.length) := by rw [List.drop_set_of_lt (by omega)]
      rw [e1, e2]
      simp only [List.length_cons, List.append_assoc, List.cons_append, List.nil_append]
      congr 4
      omega
    · exact World.grownBy.trans (b := x.setCell ⟨b, i, none⟩ v) ⟨rfl, rfl, rfl, by simp, fun k hk hne => Below.heap_setCell x ⟨b, i, none⟩ v k fun e => hne (by rw [e])⟩ r3
theorem run_loadCellsFrom (b : Nat) (T : TypeId) (cs : List Value) (x : World) (hx : x.heap[b]? = some (.cells cs.toArray T (0, 0))) : ∀ (n i : Nat) (acc : Array Value), i + n ≤ cs.length → (loadCellsFrom ⟨b, 0, none⟩ i n acc).run P x = .ok (acc ++ ((cs.drop i).take n).toArray) x
  | 0, i, acc, _ => by simp [loadCellsFrom, Sem.run, pure]
  | n + 1, i, acc, h => by
    have hc : x.cell? ⟨b, i, none⟩ = some (cs[i]'(by omega)) := by
      unfold World.cell?
      simp only [hx]
      simp [List.getElem?_eq_getElem (show i < cs.length by omega)]
    unfold loadCellsFrom
    have e : (⟨b, 0, none⟩ : Addr).add i = ⟨b, i, none⟩ := by unfold Addr.add; split <;> simp_all
    rw [e]
    have hl : (load ⟨b, i, none⟩).run P x = .ok (cs[i]'(by omega)) x := by simp [load, Sem.run, hc]
    simp only [Sem.run_bind, hl, Result.andThen_ok]
    rw [run_loadCellsFrom b T cs x hx n (i + 1) _ (by omega)]
    rw [List.drop_eq_getElem_cons (show i < cs.length by omega), List.take_succ_cons]
    simp
variable {ops : Array Oper} {rest : List Oper} {o : Oper} {a : Act} {Q : Exit → Act → World → Prop}
theorem wpList_store_block {w : World} (hgd : o.guard = none) (p q : Operand) (t : TypeId) (ho : o.op = .store t p q) (b : Nat) (vs cs : List Value) (T : TypeId) (hp : a.eval p = .pointer (some ⟨b, 0, none⟩)) (hq : a.eval q = .agg vs.toArray)
    (hsz : (sizeOf t).run P w = .ok vs.length w) (hb : w.heap[b]? = some (.cells cs.toArray T (0, 0))) (hl : cs.length = vs.length) (h1 : ∀ u ∈ vs, u.oneCell' = true)
    (h : ∀ w', w'.heap[b]? = some (.cells vs.toArray T (0, 0)) → w.grownBy w' (some b) → w'.heap.size = w.heap.size → wpList P ops Q rest (a.put o.dst undef) w') : wpList P ops Q (o :: rest) a w := by
  obtain ⟨x', r1, r2, r3, r4⟩ := run_storeCells (P := P) b T vs 0 cs w hb (by omega) h1
  refine wpList_plain hgd fun K hK => ?_
  unfold Oper.wp execOp
  have e2 : (storeVar t ⟨b, 0, none⟩ (.agg vs.toArray)).run P w = .ok () x' := by
    unfold storeVar
    simp only [Sem.run_bind, hsz, Result.andThen_ok, Value.cells, List.size_toArray, ne_eq, not_true_eq_false, if_false]
    exact r1
  simp only [ho, Instr.storeAt, Instr.sureAddr, hp, hq, Sem.run_bind, Sem.run_pure, Result.andThen_ok, e2]
  refine hK _ _ (h x' ?_ r3 r4)
  rw [r2]
  congr 2
  apply congrArg
  simp [hl]
theorem run_loadBlock {w : World} {t : TypeId} {b : Nat} {cs : List Value} {T : TypeId} (hag : (isAgg t).run P w = .ok true w) (hsz : (sizeOf t).run P w = .ok cs.length w) (hb : w.heap[b]? = some (.cells cs.toArray T (0, 0))) : (loadVar t ⟨b, 0, none⟩).run P w = .ok (.agg cs.toArray) w := by
  unfold loadVar loadCells
  simp only [Sem.run_bind, hag, hsz, Result.andThen_ok, if_true]
  rw [run_loadCellsFrom b T cs w hb cs.length 0 #[] (by omega)]
  simp [Sem.run, pure]
theorem wpList_load_block {w : World} (hgd : o.guard = none) (p : Operand) (t : TypeId) (ho : o.op = .load t p) (b : Nat) (cs : List Value) (T : TypeId) (hp : a.eval p = .pointer (some ⟨b, 0, none⟩))
    (hag : (isAgg t).run P w = .ok true w) (hsz : (sizeOf t).run P w = .ok cs.length w) (hb : w.heap[b]? = some (.cells cs.toArray T (0, 0))) (h : wpList P ops Q rest (a.put o.dst (.agg cs.toArray)) w) : wpList P ops Q (o :: rest) a w := by
  refine wpList_plain hgd fun K hK => ?_
  unfold Oper.wp execOp
  have e2 : (loadVar t ⟨b, 0, none⟩).run P w = .ok (.agg cs.toArray) w := by
    unfold loadVar loadCells
    simp only [Sem.run_bind, hag, hsz, Result.andThen_ok, if_true]
    rw [run_loadCellsFrom b T cs w hb cs.length 0 #[] (by omega)]
    simp [Sem.run, pure]
  simp only [ho, Instr.loadAt, Instr.sureAddr, hp, Sem.run_bind, Sem.run_pure, Result.andThen_ok, e2]
  exact hK _ _ h
theorem run_asAddr (ad : Addr) (w : World) : (asAddr (.pointer (some ad))).run P w = .ok ad w := rfl
theorem results_cell1 {fn : Func} {p : Tmp} {ty : TypeId} (h : fn.results = #[.cell p ty]) {tmps : Array Value} {w : World} {ad : Addr} {v : Value} (ht : tmps.getD p undef = .pointer (some ad)) (hl : (loadVar ty ad).run P w = .ok v w) : (results fn tmps).run P w = .ok v w := by
  unfold results
  rw [h]
  simp only [List.mapM_toArray, List.mapM_cons, List.mapM_nil, ht, Sem.run_bind, Sem.run_pure, run_asAddr, Result.andThen_ok, hl, bind_assoc, pure_bind, map_eq_pure_bind]
  rfl
theorem results_cell2t {fn : Func} {p u : Tmp} {ty : TypeId} (h : fn.results = #[.cell p ty, .tmp u]) {tmps : Array Value} {w : World} {ad : Addr} {v : Value} (ht : tmps.getD p undef = .pointer (some ad)) (hl : (loadVar ty ad).run P w = .ok v w) : (results fn tmps).run P w = .ok (.tuple #[v, tmps.getD u undef]) w := by
  unfold results
  rw [h]
  simp only [List.mapM_toArray, List.mapM_cons, List.mapM_nil, ht, Sem.run_bind, Sem.run_pure, run_asAddr, Result.andThen_ok, hl, bind_assoc, pure_bind, map_eq_pure_bind]
  rfl
end
end Go.Proofs
