import Derived.Test.YtceiinlmblgdoaaGreatDoorBk2
set_option linter.unusedSimpArgs false
set_option linter.unusedVariables false
namespace Go.Proofs
open Go.RowKit
section
variable {P : Program} {ops : Array Oper}
/-- What a region's text must be like: what an operation looks at is written by operations that it waits for, each slot by one operation alone, and all wait for earlier ones. -/
def slotsOk (ops : Array Oper) : Bool :=
  (List.range ops.size).all fun i => match ops[i]? with
  | none => true
  | some o =>
    ((o.looksAt ops).all fun s => (List.range ops.size).all fun j => match ops[j]? with
      | none => true
      | some oj => oj.dst != some s || (decide (j < i) && o.after.any fun e => Region.binds .any e && e.on == j)) &&
    ((List.range ops.size).all fun j => match ops[j]? with
      | none => true
      | some oj => j == i || o.dst.isNone || oj.dst != o.dst) &&
    (o.after.all fun e => !Region.binds .any e || decide (e.on < i))
structure SlotsOk (ops : Array Oper) : Prop where
  look : ∀ (i : Nat) (o : Oper) (s j : Nat) (oj : Oper), ops[i]? = some o → s ∈ o.looksAt ops → ops[j]? = some oj → oj.dst = some s → j < i ∧ ∃ e ∈ o.after, Region.binds .any e = true ∧ e.on = j
  dst : ∀ (i j : Nat) (o oj : Oper) (s : Nat), ops[i]? = some o → ops[j]? = some oj → o.dst = some s → oj.dst = some s → j = i
  after : ∀ (i : Nat) (o : Oper) (e : Edge), ops[i]? = some o → e ∈ o.after → Region.binds .any e = true → e.on < i
theorem lt_of_some {i : Nat} {o : Oper} (h : ops[i]? = some o) : i < ops.size := (Array.getElem?_eq_some_iff.1 h).1
theorem slotsOk_spec (h : slotsOk ops = true) : SlotsOk ops := by
  unfold slotsOk at h
  simp only [List.all_eq_true, List.mem_range] at h
  refine ⟨fun i o s j oj hi hs hj hd => ?_, fun i j o oj s hi hj hd hd' => ?_, fun i o e hi he hb => ?_⟩
  · have h1 := h i (lt_of_some hi)
    simp only [hi, Bool.and_eq_true, List.all_eq_true, List.mem_range] at h1
    have h2 := h1.1.1 s hs j (lt_of_some hj)
    simp only [hj, hd, Bool.or_eq_true, Bool.and_eq_true, decide_eq_true_eq, bne_self_eq_false, Bool.false_eq_true, false_or] at h2
    obtain ⟨h3, h4⟩ := h2
    obtain ⟨e, he, hb⟩ := Array.any_eq_true'.1 h4
    simp only [Bool.and_eq_true, beq_iff_eq] at hb
    exact ⟨h3, e, he, hb⟩
  · have h1 := h i (lt_of_some hi)
    simp only [hi, Bool.and_eq_true, List.all_eq_true, List.mem_range] at h1
    have h2 := h1.1.2 j (lt_of_some hj)
    simpa [hj, hd, hd'] using h2
  · have h1 := h i (lt_of_some hi)
    simp only [hi, Bool.and_eq_true] at h1
    have h2 := Array.all_eq_true_iff_forall_mem.1 h1.2 e he
    simpa [hb] using h2

theorem act_ext {a b : Act} (h1 : a.defers = b.defers) (h2 : ∀ s : Nat, a.tmps[s]? = b.tmps[s]?) : a = b := by
  obtain ⟨t, d⟩ := a
  obtain ⟨t', d'⟩ := b
  dsimp only at h1 h2
  subst h1
  have : t = t' := Array.ext_getElem? h2
  subst this
  rfl
theorem eval_same {a b : Act} {x : Operand} (h : ∀ t : Nat, x = .tmp t → a.tmps[t]? = b.tmps[t]?) : a.eval x = b.eval x := by
  cases x with
  | tmp t =>
    have := h t rfl
    simp [Act.eval, this]
  | _ => rfl
theorem exec_same {o : Oper} {a b : Act} (hsel : ∀ cs b, o.op ≠ .select cs b) (h : ∀ s ∈ o.looksAt ops, a.tmps[s]? = b.tmps[s]?) : execOp a.eval o = execOp b.eval o :=
  execOp_congr o hsel fun x hx => eval_same fun t ht => h t (by
    subst ht
    exact List.mem_append_left _ (List.mem_filterMap.2 ⟨.tmp t, by simpa using hx, rfl⟩))
theorem wanted_same {o : Oper} {a b : Act} (h : ∀ s ∈ o.looksAt ops, a.tmps[s]? = b.tmps[s]?) : Region.wanted o (yielded ops a.tmps) = Region.wanted o (yielded ops b.tmps) := by
  unfold Region.wanted
  cases hg : o.guard with
  | none => rfl
  | some gw =>
    obtain ⟨g, want⟩ := gw
    have hy : yielded ops a.tmps g = yielded ops b.tmps g := by
      unfold yielded
      cases ht : (ops[g]?).bind (·.dst) with
      | none => rfl
      | some t =>
        have := h t (by simp [Oper.looksAt, hg, ht])
        simp [this]
    simp only [hy]
theorem yields_same {C : World → Prop} {o : Oper} {v : Value} {a b : Act} (hsel : ∀ cs b, o.op ≠ .select cs b) (h : ∀ s ∈ o.looksAt ops, a.tmps[s]? = b.tmps[s]?) (hy : YieldsIn P ops C o v a) : YieldsIn P ops C o v b :=
  hy.of_same (exec_same hsel h).symm (wanted_same h).symm
theorem put_get {a : Act} {d : Option Tmp} {v : Value} {s : Nat} (h : d ≠ some s) : (a.put d v).tmps[s]? = a.tmps[s]? := by
  cases d with
  | none => rfl
  | some d =>
    have hne : d ≠ s := fun e => h (by rw [e])
    simp [Act.put, Array.getElem?_setIfInBounds_ne hne]
theorem put_size {a : Act} {d : Option Tmp} {v : Value} : (a.put d v).tmps.size = a.tmps.size := by cases d <;> simp [Act.put]
theorem put_defers {a : Act} {d : Option Tmp} {v : Value} : (a.put d v).defers = a.defers := by cases d <;> rfl
theorem put_at {a : Act} {d : Nat} {v : Value} (h : d < a.tmps.size) : (a.put (some d) v).tmps[d]? = some v := by simp [Act.put, h]
theorem put_out {a : Act} {d : Nat} {v : Value} (h : ¬ d < a.tmps.size) : (a.put (some d) v).tmps[d]? = none := by simp [Act.put]; omega

/-- The walk of the text: what each operation yields in the frame at the end. -/
theorem fin_of_quiet (H : SlotsOk ops) (hsel : ∀ (j : Nat) (o : Oper) cs b, ops[j]? = some o → o.op ≠ .select cs b) {C : World → Prop} {af : Act} : ∀ (l : List Oper) (k : Nat) (a : Act), (∀ j, l[j]? = ops[k + j]?) → wpQuiet P ops C (fun a' => a' = af) l a →
    (∀ i o, k ≤ i → ops[i]? = some o → ∃ v, YieldsIn P ops C o v af ∧ ∀ d, o.dst = some d → d < af.tmps.size → af.tmps[d]? = some v) ∧ a.tmps.size = af.tmps.size ∧ a.defers = af.defers ∧
      ∀ s, (∀ j oj, k ≤ j → ops[j]? = some oj → oj.dst ≠ some s) → a.tmps[s]? = af.tmps[s]?
  | [], k, a, hl, h => by
    have h' : a = af := h
    subst h'
    refine ⟨fun i o hi ho => ?_, rfl, rfl, fun s _ => rfl⟩
    have := hl (i - k)
    rw [show k + (i - k) = i by omega, ho] at this
    simp at this
  | o :: rest, k, a, hl, h => by
    have h0 : ops[k]? = some o := by simpa using (hl 0).symm
    have hq : qOp P ops C k (wpQuiet P ops C (fun a' => a' = af) rest) a := by unfold qOp; simp only [h0]; exact h
    obtain ⟨v, hy, hK⟩ := yieldsIn_of_qOp h0 hq
    obtain ⟨i1, i2, i3, i4⟩ := fin_of_quiet H hsel rest (k + 1) (a.put o.dst v) (fun j => by have := hl (j + 1); rw [List.getElem?_cons_succ] at this; rw [this]; congr 1; omega) hK
    have hag : ∀ s ∈ o.looksAt ops, a.tmps[s]? = af.tmps[s]? := fun s hs => by
      have hw : ∀ j oj, k ≤ j → ops[j]? = some oj → oj.dst ≠ some s := fun j oj hj ho hd => by
        have := (H.look k o s j oj h0 hs ho hd).1
        omega
      rw [← i4 s (fun j oj hj => hw j oj (by omega)), put_get (hw k o (Nat.le_refl _) h0)]
    refine ⟨fun i o' hi ho => ?_, by rw [← i2, put_size], by rw [← i3, put_defers], fun s hs => ?_⟩
    · by_cases hik : i = k
      · subst hik
        obtain rfl : o = o' := Option.some.inj (h0.symm.trans ho)
        refine ⟨v, yields_same (hsel _ _ · · h0) hag hy, fun d hd hlt => ?_⟩
        rw [← i4 d (fun j oj hj hoj hdj => by have := H.dst i j o oj d h0 hoj hd hdj; omega), hd]
        exact put_at (by rw [← put_size (a := a) (d := o.dst) (v := v), i2]; exact hlt)
      · exact i1 i o' (by omega) ho
    · rw [← i4 s (fun j oj hj => hs j oj (by omega)), put_get (hs k o (Nat.le_refl _) h0)]

/-! How many have not come up. -/
def unlisted (n : Nat) (listed : Array Bool) : Nat := ((List.range n).filter fun j => !listed.getD j true).length
theorem filter_less {α : Type} {p q : α → Bool} : ∀ (l : List α), (∀ x, q x = true → p x = true) → (l.filter q).length ≤ (l.filter p).length
  | [], _ => Nat.le_refl _
  | x :: l, h => by
    have ih := filter_less l h
    simp only [List.filter_cons]
    by_cases hq : q x = true
    · rw [if_pos hq, if_pos (h x hq)]; simpa using ih
    · rw [if_neg hq]
      split
      · simp only [List.length_cons]; omega
      · exact ih
theorem filter_fewer {α : Type} {p q : α → Bool} : ∀ (l : List α), (∀ x, q x = true → p x = true) → (∃ x ∈ l, p x = true ∧ q x = false) → (l.filter q).length < (l.filter p).length
  | [], _, h => by obtain ⟨x, hx, _⟩ := h; cases hx
  | y :: l, h, hx => by
    obtain ⟨x, hm, hp, hq⟩ := hx
    simp only [List.filter_cons]
    rcases List.mem_cons.1 hm with rfl | hm
    · rw [if_neg (by rw [hq]; decide), if_pos hp]
      have := filter_less l h
      simp only [List.length_cons]; omega
    · have ih := filter_fewer l h ⟨x, hm, hp, hq⟩
      by_cases hqy : q y = true
      · rw [if_pos hqy, if_pos (h y hqy)]; simpa using ih
      · rw [if_neg hqy]
        split
        · simp only [List.length_cons]; omega
        · exact ih
theorem unlisted_set {n i : Nat} {listed : Array Bool} (hi : i < n) (h : listed.getD i true = false) : unlisted n (listed.setIfInBounds i true) < unlisted n listed := by
  refine filter_fewer _ (fun j hj => ?_) ⟨i, List.mem_range.2 hi, by simp [h], ?_⟩
  · by_cases hij : i = j
    · subst hij; simp [h]
    · rw [getD_set_ne true hij] at hj; exact hj
  · have : (listed.setIfInBounds i true).getD i true = true := by
      simp only [Array.getD_eq_getD_getElem?, Array.getElem?_setIfInBounds]
      by_cases hs : i < listed.size <;> simp [hs]
    rw [this]; rfl
end
end Go.Proofs
