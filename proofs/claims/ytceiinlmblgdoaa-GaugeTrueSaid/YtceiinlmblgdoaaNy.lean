import Derived.Test.YtceiinlmblgdoaaNs
set_option linter.unusedSimpArgs false
set_option linter.unusedVariables false
namespace Go.Proofs
open Go.RowKit
section
variable {P : Program}

/-! A region that draws its order, by rely and guarantee: 'J' holds of the world throughout, 'G' is what each operation does to the world at most, 'F s v x' says of slot 's' what its value is worth in a world. No edge is counted: what an operation looks at has been yielded before. -/
def putAll (vs : Nat → Value) : List Oper → Act → Act
  | [], a => a
  | o :: l, a => putAll vs l (match o.dst with | some s => a.put (some s) (vs s) | none => a)
theorem putAll_size (vs : Nat → Value) : ∀ (l : List Oper) (a : Act), (putAll vs l a).tmps.size = a.tmps.size
  | [], a => rfl
  | o :: l, a => by
    unfold putAll
    rw [putAll_size vs l]
    split
    · exact put_size
    · rfl
theorem putAll_defers (vs : Nat → Value) : ∀ (l : List Oper) (a : Act), (putAll vs l a).defers = a.defers
  | [], a => rfl
  | o :: l, a => by
    unfold putAll
    rw [putAll_defers vs l]
    split
    · exact put_defers
    · rfl
theorem putAll_at (vs : Nat → Value) : ∀ (l : List Oper) (a : Act) (s : Nat), s < a.tmps.size → (putAll vs l a).tmps[s]? = if (∃ o ∈ l, o.dst = some s) then some (vs s) else a.tmps[s]?
  | [], a, s, h => by simp [putAll]
  | o :: l, a, s, h => by
    unfold putAll
    rw [putAll_at vs l _ s (by split <;> simp [put_size, h])]
    by_cases h1 : ∃ o' ∈ l, o'.dst = some s
    · rw [if_pos h1, if_pos (by obtain ⟨o', a1, a2⟩ := h1; exact ⟨o', List.mem_cons_of_mem _ a1, a2⟩)]
    · rw [if_neg h1]
      by_cases h2 : o.dst = some s
      · rw [if_pos ⟨o, List.mem_cons_self .., h2⟩, h2]
        exact put_at h
      · rw [if_neg (by
          rintro ⟨o', a1, a2⟩
          rcases List.mem_cons.1 a1 with rfl | a1
          · exact h2 a2
          · exact h1 ⟨o', a1, a2⟩)]
        split
        · rename_i s' hs'
          exact put_get (by rw [← hs']; exact h2)
        · rfl

def Inv (l : List Oper) (a0 : Act) (J : World → Prop) (F : Nat → Value → World → Prop) (listed : Array Bool) (a : Act) (x : World) : Prop :=
  listed.size = l.length ∧ J x ∧ a.tmps.size = a0.tmps.size ∧ a.defers = a0.defers ∧ (∀ s : Nat, (∀ o ∈ l, o.dst ≠ some s) → a.tmps[s]? = a0.tmps[s]?) ∧
  ∀ (j : Nat) (o : Oper) (s : Nat), l[j]? = some o → o.dst = some s → listed.getD j true = true → ∃ v, a.tmps[s]? = some v ∧ F s v x

theorem region_rg {id : Nat} {Q : Exit → Act → World → Prop} {a0 : Act} {w : World} {l : List Oper} (J : World → Prop) (G : World → World → Prop) (F : Nat → Value → World → Prop)
    (hm : P.follows .mixedOrders = true) (hB : slotsOk l.toArray = true) (hg : l.all (fun o => o.guard.isNone) = true) (hdB : l.all (fun o => match o.dst with | some s => decide (s < a0.tmps.size) | none => true) = true)
    (hJ : J { w with drawn := w.drawn + 1 })
    (hF : ∀ s v x x', J x → G x x' → F s v x → F s v x')
    (hstep : ∀ o ∈ l, ∀ (a : Act) (x : World), J x → (∀ s ∈ o.looksAt l.toArray, if (∃ o' ∈ l, o'.dst = some s) then ∃ v, a.tmps[s]? = some v ∧ F s v x else a.tmps[s]? = a0.tmps[s]?) →
      o.wp P a x (fun a' x' => J x' ∧ G x x' ∧ ∃ v, a' = a.put o.dst v ∧ ∀ d, o.dst = some d → F d v x') Q)
    (hend : ∀ (vs : Nat → Value) (x : World), J x → (∀ o ∈ l, ∀ s, o.dst = some s → F s (vs s) x) → Q .normal (putAll vs l a0) x) :
    (Code.region id l.toArray true).wp P Q a0 w := by
  have hd : ∀ o ∈ l, ∀ s, o.dst = some s → s < a0.tmps.size := fun o ho s hs => by
    have := List.all_eq_true.1 hdB o ho
    rw [hs] at this
    simpa using this
  have H := slotsOk_spec hB
  have get : ∀ j : Nat, l.toArray[j]? = l[j]? := fun j => by simp
  have hone : ∀ (listed : Array Bool) (a : Act) (x : World), Inv l a0 J F listed a x → Region.ready .any l.toArray listed = [] → Q .normal a x := by
    rintro listed a x ⟨h1, h2, h3, h4, h5, h6⟩ hr
    have hu := all_up H (by simpa using h1) hr
    have : a = putAll (fun s => (a.tmps[s]?).getD undef) l a0 := by
      refine act_ext (by rw [putAll_defers]; exact h4) fun s => ?_
      by_cases hs : s < a0.tmps.size
      · rw [putAll_at _ _ _ _ hs]
        split
        · rw [Array.getElem?_eq_getElem (by omega)]; rfl
        · rename_i hn
          exact h5 s fun o ho e => hn ⟨o, ho, e⟩
      · rw [Array.getElem?_eq_none (by omega), Array.getElem?_eq_none (by rw [putAll_size]; omega)]
    rw [this]
    refine hend _ x h2 fun o ho s hs => ?_
    obtain ⟨j, hj⟩ := List.getElem?_of_mem ho
    obtain ⟨v, hv, hf⟩ := h6 j o s hj hs (hu j (by have := lt_of_some (ops := l.toArray) ((get j).trans hj); exact this))
    rw [hv]
    exact hf
  have hall : ∀ (f : Nat) (listed : Array Bool) (a : Act) (x : World), unlisted l.toArray.size listed ≤ f → Inv l a0 J F listed a x → wpAny P .any l.toArray Q f listed a x := by
    intro f
    induction f with
    | zero =>
      intro listed a x hf h
      have hr : Region.ready .any l.toArray listed = [] := by
        rw [List.eq_nil_iff_forall_not_mem]
        intro i hi
        obtain ⟨hiu, o, ho, _⟩ := mem_ready.1 hi
        have := unlisted_set (n := l.toArray.size) (lt_of_some ho) hiu
        omega
      exact ⟨hr, hone listed a x h hr⟩
    | succ f ih =>
      intro listed a x hf h
      refine ⟨fun hr => hone listed a x h hr, fun i hi => ?_⟩
      obtain ⟨hiu, o, ho, hedge⟩ := mem_ready.1 hi
      have hl := unlisted_set (n := l.toArray.size) (lt_of_some ho) hiu
      obtain ⟨h1, h2, h3, h4, h5, h6⟩ := h
      have hol : l[i]? = some o := by rw [← get]; exact ho
      have hmem : o ∈ l := List.mem_of_getElem? hol
      have hgn : o.guard = none := by
        have := List.all_eq_true.1 hg o hmem
        simpa using this
      have hw : Region.wanted o (yielded l.toArray a.tmps) = true := by unfold Region.wanted; rw [hgn]
      have hst := hstep o hmem a x h2 (fun s hs => by
        split
        · rename_i hex
          obtain ⟨o', ho', hd'⟩ := hex
          obtain ⟨j, hj⟩ := List.getElem?_of_mem ho'
          obtain ⟨_, e, he, hb, hon⟩ := H.look i o s j o' ho hs ((get j).trans hj) hd'
          have := hedge e he hb
          rw [hon] at this
          exact h6 j o' s hj hd' (getD_tt this)
        · rename_i hn
          exact h5 s fun o' ho' e => hn ⟨o', ho', e⟩)
      unfold wpOp
      simp only [ho]
      rw [if_pos hw]
      refine .inl (Oper.wp_mono ?_ hst)
      rintro a' x' ⟨j1, j2, v, rfl, j3⟩
      refine ih _ _ _ (by omega) ⟨by simpa using h1, j1, by rw [put_size]; exact h3, by rw [put_defers]; exact h4, fun s hs => ?_, fun j oj s hj hdj hlj => ?_⟩
      · rw [put_get (hs o hmem)]; exact h5 s hs
      · by_cases hij : i = j
        · subst hij
          obtain rfl : o = oj := Option.some.inj (hol.symm.trans hj)
          refine ⟨v, ?_, j3 s hdj⟩
          rw [hdj]
          exact put_at (by rw [h3]; exact hd o hmem s hdj)
        · rw [getD_set_ne true hij] at hlj
          obtain ⟨u, hu1, hu2⟩ := h6 j oj s hj hdj hlj
          refine ⟨u, ?_, hF s u x x' h2 j2 hu2⟩
          rw [put_get]
          · exact hu1
          · intro e
            exact hij (H.dst i j o oj s ho ((get j).trans hj) e hdj).symm
  refine wp_region_any hm (hall _ _ _ _ ?_ ⟨by simp, hJ, rfl, rfl, fun _ _ => rfl, fun j o s hj hdj hlj => ?_⟩)
  · unfold unlisted
    exact Nat.le_trans (List.length_filter_le _ _) (by simp)
  · exfalso
    have hlt : j < l.length := (List.getElem?_eq_some_iff.1 hj).1
    simp [hlt] at hlj

end
end Go.Proofs
