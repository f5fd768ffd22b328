import Derived.Test.YtpmliaildjomeaaGreatDoorMg15
import Derived.Test.YtpmliaildjomeaaGreatDoorMg10
set_option linter.unusedSimpArgs false
set_option linter.unusedVariables false
namespace Go.Proofs
open Go.RowKit
section
variable {P : Program}
/-! A drawn region whose operations make memory, and write into what they have made: one law. -/
def onsO (o : Oper) : List Nat := (o.after.toList.filter (Region.binds .any)).map (·.on)
def stepO (l : List Oper) (S : List Nat) : List Nat := S.foldl (fun acc i => match l[i]? with
  | some o => (onsO o).foldl (fun a e => if a.contains e then a else a ++ [e]) acc
  | none => acc) S
def reachO (l : List Oper) : Nat → List Nat → List Nat
  | 0, S => S
  | n + 1, S => reachO l n (stepO l S)
def depB (l : List Oper) (sp : List Nat) (dep : Nat → List Nat) : Bool := sp.all fun j => match l[j]? with
  | some o => (dep j).all fun i => (reachO l l.length (onsO o)).contains i
  | none => false
theorem onsO_spec {o : Oper} {L : Nat → Bool} (h : ∀ e ∈ o.after, Region.binds .any e = true → L e.on = true) : ∀ i ∈ onsO o, L i = true := by
  intro i hi
  obtain ⟨e, he, rfl⟩ := List.mem_map.1 hi
  obtain ⟨h1, h2⟩ := List.mem_filter.1 he
  exact h e (by simpa using h1) h2
theorem stepO_spec {l : List Oper} {L : Nat → Bool} (hc : ∀ (i : Nat) (o : Oper), l[i]? = some o → L i = true → ∀ e ∈ o.after, Region.binds .any e = true → L e.on = true) {S : List Nat} (hS : ∀ i ∈ S, L i = true) : ∀ i ∈ stepO l S, L i = true := by
  have inner : ∀ (es acc : List Nat), (∀ i ∈ acc, L i = true) → (∀ i ∈ es, L i = true) → ∀ i ∈ es.foldl (fun a e => if a.contains e then a else a ++ [e]) acc, L i = true := by
    intro es
    induction es with
    | nil => intro acc h _ i hi; exact h i hi
    | cons e es ih =>
      intro acc h h2 i hi
      refine ih _ (fun j hj => ?_) (fun j hj => h2 j (by simp [hj])) i hi
      dsimp only at hj
      split at hj
      · exact h j hj
      · rcases List.mem_append.1 hj with hj | hj
        · exact h j hj
        · rw [List.mem_singleton] at hj; subst hj; exact h2 _ (by simp)
  have outer : ∀ (T acc : List Nat), (∀ i ∈ T, L i = true) → (∀ i ∈ acc, L i = true) → ∀ i ∈ T.foldl (fun acc i => match l[i]? with
      | some o => (onsO o).foldl (fun a e => if a.contains e then a else a ++ [e]) acc
      | none => acc) acc, L i = true := by
    intro T
    induction T with
    | nil => intro acc _ h i hi; exact h i hi
    | cons t T ih =>
      intro acc hT h i hi
      refine ih _ (fun j hj => hT j (by simp [hj])) (fun j hj => ?_) i hi
      dsimp only at hj
      split at hj
      · rename_i o ho
        exact inner _ _ h (onsO_spec (hc t o ho (hT t (by simp)))) j hj
      · exact h j hj
  exact outer S S hS hS
theorem reachO_spec {l : List Oper} {L : Nat → Bool} (hc : ∀ (i : Nat) (o : Oper), l[i]? = some o → L i = true → ∀ e ∈ o.after, Region.binds .any e = true → L e.on = true) : ∀ (n : Nat) {S : List Nat}, (∀ i ∈ S, L i = true) → ∀ i ∈ reachO l n S, L i = true
  | 0, _, hS => hS
  | n + 1, _, hS => reachO_spec hc n (stepO_spec hc hS)
theorem depB_spec {l : List Oper} {sp : List Nat} {dep : Nat → List Nat} (h : depB l sp dep = true) {L : Nat → Bool} (hc : ∀ (i : Nat) (o : Oper), l[i]? = some o → L i = true → ∀ e ∈ o.after, Region.binds .any e = true → L e.on = true)
    {j : Nat} (hj : j ∈ sp) {o : Oper} (ho : l[j]? = some o) (ha : ∀ e ∈ o.after, Region.binds .any e = true → L e.on = true) : ∀ i ∈ dep j, L i = true := by
  have h1 := List.all_eq_true.1 h j hj
  rw [ho] at h1
  intro i hi
  have h2 := List.all_eq_true.1 h1 i hi
  exact reachO_spec hc _ (onsO_spec ha) i (by simpa using h2)
theorem does_mono {K K' : Value → World → Prop} {r : Result Next} (h : Does P K r) (hK : ∀ v x, K v x → K' v x) : Does P K' r := by
  cases r with
  | ok n x =>
    cases n <;> simp only [Does] at h ⊢
    case value v => exact hK _ _ h
    case skip => exact hK _ _ h
    case enter f args => exact h.mono fun e x' ⟨v, he, hk⟩ => ⟨v, he, hK _ _ hk⟩
  | halt hh x => exact h
def flagG (sts : List Nat) (tg : Nat → Nat) (L : Nat → Bool) (j : Nat) : Bool := sts.any fun k => tg k == j && L k
/-- THE LAW: makers 'mks' (calls that hand back memory, blocks), stores 'sts' (each into the block of the maker 'tg'); 'R j stored' is what holds of maker j; 'Own j' its blocks. -/
theorem any_gen {Q : Exit → Act → World → Prop} {a0 : Act} {w : World} {l : List Oper} (w0 : World) (C : World → Prop) (mks sts : List Nat) (tg : Nat → Nat) (dep : Nat → List Nat) (mk : Nat → Gh → Value) (R : Nat → Bool → (Nat → Gh) → World → Prop) (Own : Nat → Gh → Nat → Prop) (af : (Nat → Gh) → Act)
    (hB : slotsOk l.toArray = true) (hB' : ∀ g, slotsOk (mixL (mks ++ sts) mk g 0 l).toArray = true) (hS : Region.noSelect l.toArray = true) (hN : spB l.toArray (mks ++ sts) = true)
    (hnd : (mks ++ sts).Nodup) (htg : ∀ k ∈ sts, tg k ∈ mks ∧ tg k ∈ dep k) (hinj : ∀ k ∈ sts, ∀ k' ∈ sts, tg k = tg k' → k = k') (hD : depB l (mks ++ sts) dep = true)
    (hkd : sts.all (fun k => match l[k]? with | some o => o.dst.isNone | none => false) = true)
    (hC0 : C w) (hCs : ∀ x x', C x → Below x.heap.size x x' → C x') (hCw : ∀ x, C x → Below w0.heap.size w0 x) (hCz : ∀ x, C x → w.heap.size ≤ x.heap.size) (hCo : ∀ x x' b, C x → OnlyB b x x' → w.heap.size ≤ b → C x')
    (hRb : ∀ j f g x x', R j f g x → Below x.heap.size x x' → R j f g x')
    (hRg : ∀ i f g j h x, j ≠ i → j ∉ dep i → (f = true → ∀ k ∈ sts, tg k = i → j ∉ dep k) → R i f g x → R i f (upd g j h) x)
    (hRo : ∀ i f g b x x', C x → R i f g x → OnlyB b x x' → w.heap.size ≤ b → ¬ Own i (g i) b → R i f g x')
    (hmake : ∀ j ∈ mks, ∀ o, l[j]? = some o → ∀ (g : Nat → Gh) (x : World), C x → (∀ i ∈ dep j, i ∈ mks → ∃ f, R i f g x ∧ ∀ b, Own i (g i) b → w.heap.size ≤ b ∧ b < x.heap.size) →
      Does P (fun v x' => ∃ h, v = mk j h ∧ R j false (upd g j h) x' ∧ Below x.heap.size x x' ∧ ∀ b, Own j h b → x.heap.size ≤ b ∧ b < x'.heap.size) ((execOp (af g).eval o).run P x))
    (hstore : ∀ k ∈ sts, ∀ o, l[k]? = some o → ∀ (g : Nat → Gh) (x : World), C x → R (tg k) false g x → (∀ i ∈ dep k, i ∈ mks → i ≠ tg k → ∃ f, R i f g x) →
      ∃ x' b, (execOp (af g).eval o).run P x = .ok .skip x' ∧ Own (tg k) (g (tg k)) b ∧ OnlyB b x x' ∧ R (tg k) true g x')
    (hq : ∀ g u, C u → (∀ (x : Grew u) (b o : Nat), b < u.heap.size → x.val.cell? ⟨b, o, none⟩ = u.cell? ⟨b, o, none⟩) → Hid (∀ x : Grew u, Below w0.heap.size w0 x.val) → Hid (∀ x : Grew u, C x.val) →
      wpQuiet P (mixL (mks ++ sts) mk g 0 l).toArray (fun w' => ∃ x : Grew u, w' = x.val) (fun a' => a' = af g) (mixL (mks ++ sts) mk g 0 l) a0)
    (hind : ∀ j ∈ mks ++ sts, ∀ g h, maskL (coneS l.toArray j 0 l []) 0 (af g).tmps.toList = maskL (coneS l.toArray j 0 l []) 0 (af (upd g j h)).tmps.toList)
    (hend : ∀ (g : Nat → Gh) (x : World), C x → (∀ j ∈ mks, R j (sts.any fun k => tg k == j) g x ∧ (∀ b, Own j (g j) b → w.heap.size ≤ b ∧ b < x.heap.size) ∧ ∀ i ∈ mks, i ≠ j → ∀ b, Own j (g j) b → ¬ Own i (g i) b) → Q .normal (af g) x) :
    wpAny P .any l.toArray Q l.toArray.size (Array.replicate l.toArray.size false) a0 { w with drawn := w.drawn + 1 } := by
  have hdst : ∀ k ∈ sts, ∀ o, l[k]? = some o → o.dst = none := fun k hk o ho => by
    have := List.all_eq_true.1 hkd k hk
    rw [ho] at this
    simpa using this
  have hns : ∀ j ∈ mks, j ∉ sts := fun j hj hs => by
    obtain ⟨-, -, h⟩ := List.nodup_append.1 hnd
    exact h j hj j hs rfl
  have hflag : ∀ (L : Nat → Bool) (j k : Nat), j ∈ mks → flagG sts tg (setL L j) k = flagG sts tg L k := fun L j k hj => by
    unfold flagG
    rw [Bool.eq_iff_iff, List.any_eq_true, List.any_eq_true]
    constructor
    · rintro ⟨s, hs, h⟩
      have : s ≠ j := fun e => hns j hj (e ▸ hs)
      rw [setL_ne this] at h
      exact ⟨s, hs, h⟩
    · rintro ⟨s, hs, h⟩
      have : s ≠ j := fun e => hns j hj (e ▸ hs)
      exact ⟨s, hs, by rw [setL_ne this]; exact h⟩
  refine any_mixC w0 C (mks ++ sts) mk (fun L g x => ∀ j ∈ mks, L j = true → R j (flagG sts tg L j) g x ∧ (∀ b, Own j (g j) b → w.heap.size ≤ b ∧ b < x.heap.size) ∧ ∀ i ∈ mks, i ≠ j → L i = true → ∀ b, Own j (g j) b → ¬ Own i (g i) b) af hB hB' hS hN hC0 hCs hCw ?_ ?_ hq hind ?_ ?_
  · intro L h j hj hL
    rw [h j (List.mem_append_left _ hj)] at hL
    cases hL
  · intro L L' g x x' h hJ hb j hj hL
    have hf : flagG sts tg L' j = flagG sts tg L j := by
      unfold flagG
      rw [Bool.eq_iff_iff, List.any_eq_true, List.any_eq_true]
      constructor
      · rintro ⟨s, hs, h'⟩
        rw [h s (List.mem_append_right _ hs)] at h'
        exact ⟨s, hs, h'⟩
      · rintro ⟨s, hs, h'⟩
        exact ⟨s, hs, by rw [h s (List.mem_append_right _ hs)]; exact h'⟩
    rw [h j (List.mem_append_left _ hj)] at hL
    obtain ⟨h1, h2, h3⟩ := hJ j hj hL
    rw [hf]
    exact ⟨hRb _ _ _ _ _ h1 hb, fun b hb' => ⟨(h2 b hb').1, Nat.lt_of_lt_of_le (h2 b hb').2 hb.size⟩, fun i hi hne hLi => h3 i hi hne (by rw [← h i (List.mem_append_left _ hi)]; exact hLi)⟩
  · intro j hj o ho L g x hJ hC hB0 hL hafter hclo
    have hdj := depB_spec hD hclo hj ho hafter
    have hdd : ∀ i ∈ mks ++ sts, L i = true → ∀ d ∈ dep i, L d = true := fun i hi hLi d hd => by
      have : ∃ o, l[i]? = some o := by
        have h1 := List.all_eq_true.1 hD i hi
        cases h2 : l[i]? with
        | none => rw [h2] at h1; cases h1
        | some o => exact ⟨o, rfl⟩
      obtain ⟨o', ho'⟩ := this
      exact depB_spec hD hclo hi ho' (hclo i o' ho' hLi) d hd
    rcases List.mem_append.1 hj with hjm | hjs
    · have hmk := hmake j hjm o ho g x hC fun i hi him => by
        obtain ⟨h1, h2, -⟩ := hJ i him (hdj i hi)
        exact ⟨_, h1, h2⟩
      refine does_mono hmk ?_
      rintro v x' ⟨h, rfl, hR, hb, hO⟩
      refine ⟨hCs _ _ hC hb, .inr ⟨h, rfl, fun i hi hLi => ?_⟩⟩
      rw [hflag L j i hjm]
      by_cases hij : i = j
      · subst hij
        have hf0 : flagG sts tg L i = false := by
          unfold flagG
          rw [List.any_eq_false]
          intro k hk hh
          simp only [Bool.and_eq_true, beq_iff_eq] at hh
          have := hdd k (List.mem_append_right _ hk) hh.2 (tg k) (htg k hk).2
          rw [hh.1, hL] at this
          cases this
        rw [hf0]
        refine ⟨hR, fun b hb' => ?_, fun i' hi' hne hLi' b hb' => ?_⟩
        · rw [upd_self] at hb'
          have := hO b hb'
          exact ⟨Nat.le_trans (hCz x hC) this.1, this.2⟩
        · rw [upd_self] at hb'
          rw [upd_ne hne]
          intro hb2
          rw [setL_ne hne] at hLi'
          have h1 := (hO b hb').1
          have h2 := ((hJ i' hi' hLi').2.1 b hb2).2
          omega
      · rw [setL_ne hij] at hLi
        obtain ⟨h1, h2, h3⟩ := hJ i hi hLi
        refine ⟨hRg i _ g j h x' (Ne.symm hij) (fun hd => ?_) (fun hf k hk hki hd => ?_) (hRb _ _ _ _ _ h1 hb), fun b hb' => ?_, fun i' hi' hne hLi' b hb' => ?_⟩
        · have := hdd i (List.mem_append_left _ hi) hLi j hd
          rw [hL] at this
          cases this
        · have hLk : L k = true := by
            unfold flagG at hf
            obtain ⟨k', hk', hh⟩ := List.any_eq_true.1 hf
            simp only [Bool.and_eq_true, beq_iff_eq] at hh
            have := hinj k' hk' k hk (hh.1.trans hki.symm)
            rw [← this]
            exact hh.2
          have := hdd k (List.mem_append_right _ hk) hLk j hd
          rw [hL] at this
          cases this
        · rw [upd_ne hij] at hb'
          have := h2 b hb'
          exact ⟨this.1, Nat.lt_of_lt_of_le this.2 hb.size⟩
        · rw [upd_ne hij] at hb'
          by_cases hi'j : i' = j
          · subst hi'j
            rw [upd_self]
            intro hb2
            have h1 := (hO b hb2).1
            have h2' := (h2 b hb').2
            omega
          · rw [upd_ne hi'j]
            rw [setL_ne hi'j] at hLi'
            exact h3 i' hi' hne hLi' b hb'
    · obtain ⟨htm, htd⟩ := htg j hjs
      have hLm := hdj _ htd
      obtain ⟨m1, m2, m3⟩ := hJ _ htm hLm
      have hf0 : flagG sts tg L (tg j) = false := by
        unfold flagG
        rw [List.any_eq_false]
        intro k hk hh
        simp only [Bool.and_eq_true, beq_iff_eq] at hh
        have := hinj k hk j hjs hh.1
        rw [this, hL] at hh
        cases hh.2
      rw [hf0] at m1
      obtain ⟨x', b, r1, r2, r3, r4⟩ := hstore j hjs o ho g x hC m1 fun i hi him hne => ⟨_, (hJ i him (hdj i hi)).1⟩
      have hbw := m2 b r2
      have hsz := (r3.below 0 (Nat.zero_le _)).size
      refine does_skip r1 ⟨hCo _ _ _ hC r3 hbw.1, .inl ⟨hdst j hjs o ho, fun i hi hLi => ?_⟩⟩
      have hij : i ≠ j := fun e => hns i hi (e ▸ hjs)
      rw [setL_ne hij] at hLi
      by_cases him : i = tg j
      · subst him
        have hf1 : flagG sts tg (setL L j) (tg j) = true := by
          unfold flagG
          rw [List.any_eq_true]
          exact ⟨j, hjs, by rw [setL_self]; simp⟩
        rw [hf1]
        refine ⟨r4, fun b' hb' => ?_, fun i' hi' hne hLi' => ?_⟩
        · have := m2 b' hb'; exact ⟨this.1, Nat.lt_of_lt_of_le this.2 hsz⟩
        · rw [setL_ne (show i' ≠ j from fun e => hns i' hi' (e ▸ hjs))] at hLi'
          exact m3 i' hi' hne hLi'
      · have hf1 : flagG sts tg (setL L j) i = flagG sts tg L i := by
          unfold flagG
          rw [Bool.eq_iff_iff, List.any_eq_true, List.any_eq_true]
          constructor
          · rintro ⟨s, hs, h'⟩
            simp only [Bool.and_eq_true, beq_iff_eq] at h'
            have : s ≠ j := fun e => him (by rw [← h'.1, e])
            rw [setL_ne this] at h'
            exact ⟨s, hs, by simp [h'.1, h'.2]⟩
          · rintro ⟨s, hs, h'⟩
            simp only [Bool.and_eq_true, beq_iff_eq] at h'
            have : s ≠ j := fun e => by rw [e, hL] at h'; cases h'.2
            exact ⟨s, hs, by rw [setL_ne this]; simp [h'.1, h'.2]⟩
        rw [hf1]
        obtain ⟨h1, h2, h3⟩ := hJ i hi hLi
        refine ⟨hRo _ _ _ b _ _ hC h1 r3 hbw.1 (fun ho' => h3 (tg j) htm (Ne.symm him) hLm b ho' r2), fun b' hb' => ?_, fun i' hi' hne hLi' => ?_⟩
        · have := h2 b' hb'; exact ⟨this.1, Nat.lt_of_lt_of_le this.2 hsz⟩
        · rw [setL_ne (show i' ≠ j from fun e => hns i' hi' (e ▸ hjs))] at hLi'
          exact h3 i' hi' hne hLi'
  · intro g x hJ hC hB0
    refine hend g x hC fun j hj => ?_
    obtain ⟨h1, h2, h3⟩ := hJ j hj rfl
    refine ⟨?_, h2, fun i hi hne => h3 i hi hne rfl⟩
    have : flagG sts tg (fun _ => true) j = sts.any fun k => tg k == j := by simp [flagG]
    rw [← this]
    exact h1
end
end Go.Proofs

set_option linter.unusedSimpArgs false
set_option linter.unusedVariables false
namespace Go.Proofs
open Go.RowKit
set_option linter.unusedVariables false
/-! any_mixC and any_gen where the special operations are guarded, and each guard is known to let them pass. -/
section
variable {P : Program}
def spG (ops : Array Oper) (sp : List Nat) : Bool := sp.all fun j => match ops[j]? with | some _ => true | none => false
theorem any_mixG {Q : Exit → Act → World → Prop} {a0 : Act} {w : World} {l : List Oper} (w0 : World) (C : World → Prop) (sp : List Nat) (mk : Nat → Gh → Value) (J : (Nat → Bool) → (Nat → Gh) → World → Prop) (af : (Nat → Gh) → Act) 
    (hB : slotsOk l.toArray = true) (hB' : ∀ g, slotsOk (mixL sp mk g 0 l).toArray = true) (hS : Region.noSelect l.toArray = true) (hN : spG l.toArray sp = true) (hC0 : C w) (hCs : ∀ x x', C x → Below x.heap.size x x' → C x') (hCw : ∀ x, C x → Below w0.heap.size w0 x)
    (h0 : ∀ L, (∀ j ∈ sp, L j = false) → J L (fun _ => Gh.zero) w)
    (hst : ∀ L L' g x x', (∀ j ∈ sp, L' j = L j) → J L g x → Below x.heap.size x x' → J L' g x')
    (hq : ∀ g u, C u → (∀ (x : Grew u) (b o : Nat), b < u.heap.size → x.val.cell? ⟨b, o, none⟩ = u.cell? ⟨b, o, none⟩) → Hid (∀ x : Grew u, Below w0.heap.size w0 x.val) → Hid (∀ x : Grew u, C x.val) →
      wpQuiet P (mixL sp mk g 0 l).toArray (fun w' => ∃ x : Grew u, w' = x.val) (fun a' => a' = af g) (mixL sp mk g 0 l) a0)
    (hind : ∀ j ∈ sp, ∀ g h, maskL (coneS l.toArray j 0 l []) 0 (af g).tmps.toList = maskL (coneS l.toArray j 0 l []) 0 (af (upd g j h)).tmps.toList)
    (hwa : ∀ g, ∀ j ∈ sp, ∀ o, l.toArray[j]? = some o → Region.wanted o (yielded l.toArray (af g).tmps) = true)
    (hsp : ∀ j ∈ sp, ∀ o, l[j]? = some o → ∀ (L : Nat → Bool) (g : Nat → Gh) (x : World), J L g x → C x → Below w0.heap.size w0 x → L j = false → (∀ e ∈ o.after, Region.binds .any e = true → L e.on = true) → (∀ (i : Nat) (o : Oper), l[i]? = some o → L i = true → ∀ e ∈ o.after, Region.binds .any e = true → L e.on = true) →
      Does P (fun v x' => C x' ∧ ((o.dst = none ∧ J (setL L j) g x') ∨ ∃ h, v = mk j h ∧ J (setL L j) (upd g j h) x')) ((execOp (af g).eval o).run P x))
    (hend : ∀ g x, J (fun _ => true) g x → C x → Below w0.heap.size w0 x → Q .normal (af g) x) :
    wpAny P .any l.toArray Q l.toArray.size (Array.replicate l.toArray.size false) a0 { w with drawn := w.drawn + 1 } := by
  have H := slotsOk_spec hB
  have H' := fun g => slotsOk_spec (hB' g)
  have hsel := Region.noSelect_spec hS
  have get' : ∀ g (j : Nat), (mixL sp mk g 0 l).toArray[j]? = (l.toArray[j]?).map fun o => if sp.contains j then yieldsC (mk j (g j)) o else o := fun g j => by
    have := mixL_get sp mk g l 0 j
    simpa using this
  have hdst : ∀ (g : Nat → Gh) (j : Nat) (o : Oper), (if sp.contains j = true then yieldsC (mk j (g j)) o else o).dst = o.dst := fun g j o => by split <;> rfl
  have hyd : ∀ (g : Nat → Gh) (t : Array Value) (k : Nat), yielded (mixL sp mk g 0 l).toArray t k = yielded l.toArray t k := fun g t k => by
    unfold yielded
    rw [get']
    cases l.toArray[k]? with
    | none => rfl
    | some o => simp only [Option.map_some, Option.bind_some, hdst]
  have hwt : ∀ (g : Nat → Gh) (o : Oper) (t : Array Value), Region.wanted o (yielded (mixL sp mk g 0 l).toArray t) = Region.wanted o (yielded l.toArray t) := fun g o t => by
    have : yielded (mixL sp mk g 0 l).toArray t = yielded l.toArray t := funext (hyd g t)
    rw [this]
  have hsel' : ∀ (g : Nat → Gh) (j : Nat) (o : Oper) cs b, (mixL sp mk g 0 l).toArray[j]? = some o → o.op ≠ .select cs b := fun g j o cs b ho => by
    rw [get'] at ho
    cases hj : l.toArray[j]? with
    | none => rw [hj] at ho; cases ho
    | some o' =>
      rw [hj] at ho
      simp only [Option.map_some, Option.some.injEq] at ho
      subst ho
      split
      · simp [yieldsC]
      · exact hsel j o' cs b hj
  have hfin := fun g u hu => fin_of_quiet (H' g) (hsel' g) (mixL sp mk g 0 l) 0 a0 (fun j => by simp) (hq g u hu (fun x => x.cell) (fun x => hCw _ (hCs _ _ hu x.ok)) (fun x => hCs _ _ hu x.ok))
  have hsz : ∀ g, a0.tmps.size = (af g).tmps.size := fun g => (hfin g w hC0).2.1
  have hdf : ∀ g, a0.defers = (af g).defers := fun g => (hfin g w hC0).2.2.1
  have hun : ∀ (g : Nat → Gh) (s : Nat), (∀ (j : Nat) (oj : Oper), l.toArray[j]? = some oj → oj.dst ≠ some s) → a0.tmps[s]? = (af g).tmps[s]? := fun g s hs => (hfin g w hC0).2.2.2 s fun j oj _ hj hd => by
    rw [get'] at hj
    cases hjj : l.toArray[j]? with
    | none => rw [hjj] at hj; cases hj
    | some o' =>
      rw [hjj] at hj
      simp only [Option.map_some, Option.some.injEq] at hj
      exact hs j o' hjj (by rw [← hd, ← hj]; exact (hdst g j o').symm)
  have hquiet : ∀ (g : Nat → Gh) (i : Nat) (o : Oper), i ∉ sp → l.toArray[i]? = some o → ∀ u, C u → ∃ v, YieldsIn P l.toArray (above u) o v (af g) ∧ ∀ s, o.dst = some s → s < (af g).tmps.size → (af g).tmps[s]? = some v := by
    intro g i o hi ho u hu
    have hc : sp.contains i = false := by simpa using hi
    have ho' : (mixL sp mk g 0 l).toArray[i]? = some o := by
      rw [get', ho]
      simp [hi]
    obtain ⟨v, hy, hv⟩ := (hfin g u hu).1 i o (Nat.zero_le _) ho'
    refine ⟨v, ?_, hv⟩
    rw [above_grew]
    unfold YieldsIn at *
    rwa [hwt] at hy
  have hres : ∀ (g : Nat → Gh) (j : Nat) (o : Oper) (d : Nat), j ∈ sp → l.toArray[j]? = some o → o.dst = some d → d < (af g).tmps.size → (af g).tmps[d]? = some (mk j (g j)) := by
    intro g j o d hj ho hd hlt
    have hc : sp.contains j = true := by simpa using hj
    have ho' : (mixL sp mk g 0 l).toArray[j]? = some (yieldsC (mk j (g j)) o) := by
      rw [get', ho]
      simp [hj]
    obtain ⟨v, hy, hv⟩ := (hfin g w hC0).1 j _ (Nat.zero_le _) ho'
    have := hv d hd hlt
    rw [this]
    rcases hy with ⟨_, h2⟩ | ⟨h1, _⟩
    · have h3 := h2 w ⟨⟨w, Below.refl _ _⟩, rfl⟩
      unfold Oper.quietAt at h3
      have h4 : (execOp (af g).eval (yieldsC (mk j (g j)) o)).run P w = .ok (.value (mk j (g j))) w := by unfold execOp yieldsC; rfl
      rw [h4] at h3
      simp only [Oper.quietUpon] at h3
      rw [h3.2]
    · rw [hwt g, show Region.wanted (yieldsC (mk j (g j)) o) (yielded l.toArray (af g).tmps) = Region.wanted o (yielded l.toArray (af g).tmps) from rfl, hwa g j hj o ho] at h1
      cases h1
  have hcone : ∀ (L : Nat → Bool), (∀ (i : Nat) (o : Oper), l.toArray[i]? = some o → L i = true → ∀ e ∈ o.after, Region.binds .any e = true → L e.on = true) → ∀ j, L j = false → ∀ d ∈ coneS l.toArray j 0 l [], ∃ (i : Nat) (o : Oper), l.toArray[i]? = some o ∧ o.dst = some d ∧ L i = false := by
    intro L hcl j hj
    refine coneS_spec (G := fun d => ∃ (i : Nat) (o : Oper), l.toArray[i]? = some o ∧ o.dst = some d ∧ L i = false) ?_ l 0 [] (fun k => by simp) (fun d hd => by simp at hd)
    intro i o d ho hd hor
    refine ⟨i, o, ho, hd, ?_⟩
    rcases hor with rfl | ⟨s, hs, i', o', ho', hd', hL⟩
    · exact hj
    · obtain ⟨_, e, he, hb, hon⟩ := H.look i o s i' o' ho hs ho' hd'
      cases hLi : L i with
      | false => rfl
      | true =>
        have := hcl i o ho hLi e he hb
        rw [hon, hL] at this
        cases this
  have hone : ∀ (listed : Array Bool) (a : Act) (x : World), listed.size = l.toArray.size → MixInv l.toArray C J af listed a x → Region.ready .any l.toArray listed = [] → Q .normal a x := by
    rintro listed a x hz ⟨hb, -, g, hag, hJ⟩ hr
    have hu := all_up H hz hr
    rw [agree_all hag hu]
    have : (fun j => listed.getD j true) = fun _ => true := funext fun j => by
      by_cases hj : j < l.toArray.size
      · exact hu j hj
      · simp [Array.getElem?_eq_none (show listed.size ≤ j by omega)]
    rw [this] at hJ
    exact hend g x hJ hb (hCw _ hb)
  have hstep : ∀ (listed : Array Bool) (a : Act) (x : World) (i : Nat), i ∈ Region.ready .any l.toArray listed → MixInv l.toArray C J af listed a x → wpOp P l.toArray Q i (fun a' x' => MixInv l.toArray C J af (listed.setIfInBounds i true) a' x') a x := by
    rintro listed a x i hi ⟨hb, hcl, g, hag, hJ⟩
    obtain ⟨hiu, o, ho, hall⟩ := mem_ready.1 hi
    have hlk := agree_look H hag ho hi
    have hcl' : ∀ (i' : Nat) (o' : Oper), l.toArray[i']? = some o' → (listed.setIfInBounds i true).getD i' true = true → ∀ e ∈ o'.after, Region.binds .any e = true → (listed.setIfInBounds i true).getD e.on true = true := by
      intro i' o' ho' hL e he hbd
      have key : listed.getD e.on true = true := by
        by_cases hii : i = i'
        · subst hii
          obtain rfl : o = o' := Option.some.inj (ho.symm.trans ho')
          exact getD_tt (hall e he hbd)
        · rw [getD_set_ne true hii] at hL
          exact hcl i' o' ho' hL e he hbd
      by_cases hon : i = e.on
      · rw [hon, set_self]
      · rw [getD_set_ne true hon]; exact key
    by_cases hisp : i ∈ sp
    · have hd := hsp i hisp o (by simpa using ho) _ g x hJ hb (hCw _ hb) hiu (fun e he hbd => getD_tt (hall e he hbd)) (fun i' o' ho' => hcl i' o' (by simpa using ho'))
      rw [← exec_same (hsel i o · · ho) hlk] at hd
      unfold wpOp
      simp only [ho]
      have hwn : Region.wanted o (yielded l.toArray a.tmps) = true := by rw [wanted_same hlk]; exact hwa g i hisp o ho
      rw [if_pos hwn]
      refine .inl (wp_does hd ?_)
      rintro v x' ⟨hb', hK⟩
      refine ⟨hb', hcl', ?_⟩
      rw [setL_listed]
      rcases hK with ⟨hdn, hJ'⟩ | ⟨h, rfl, hJ'⟩
      · exact ⟨g, agree_put H hag ho (fun s hs => by rw [hdn] at hs; cases hs), hJ'⟩
      · refine ⟨upd g i h, ⟨by rw [put_size]; exact hag.1.trans ((hsz g).symm.trans (hsz _)), by rw [put_defers]; exact hag.2.1.trans ((hdf g).symm.trans (hdf _)), fun s hs => ?_⟩, hJ'⟩
        by_cases hds : o.dst = some s
        · rw [hds]
          by_cases hlt : s < (af (upd g i h)).tmps.size
          · rw [put_at (by rw [hag.1, ← hsz g, hsz (upd g i h)]; exact hlt), hres _ i o s hisp ho hds hlt]
            unfold upd
            rw [if_pos rfl]
          · rw [put_out (by rw [hag.1, ← hsz g, hsz (upd g i h)]; exact hlt), Array.getElem?_eq_none (by omega)]
        · rw [put_get hds]
          have hs' : ∀ (j : Nat) (oj : Oper), l.toArray[j]? = some oj → oj.dst = some s → listed.getD j true = true := fun j oj hj hdj => by
            have hij : i ≠ j := by
              rintro rfl
              obtain rfl : o = oj := Option.some.inj (ho.symm.trans hj)
              exact hds hdj
            have := hs j oj hj hdj
            rwa [getD_set_ne true hij] at this
          rw [hag.2.2 s hs']
          refine maskL_same (hind i hisp g h) fun hc => ?_
          obtain ⟨j, oj, hj, hdj, hL⟩ := hcone (fun j => listed.getD j true) hcl i hiu s hc
          have := hs' j oj hj hdj
          rw [this] at hL
          cases hL
    · obtain ⟨v, hy, hv⟩ := hquiet g i o hisp ho x hb
      have hy' := yields_same (hsel i o · · ho) (fun s hs => (hlk s hs).symm) hy
      refine wp_yields ho hy' (Below.refl _ _) fun x' hx' => ⟨hCs _ _ hb hx', hcl', g, agree_put H hag ho hv, ?_⟩
      refine hst _ _ g x x' (fun j hj => ?_) hJ hx'
      have hij : i ≠ j := by rintro rfl; exact hisp hj
      rw [getD_set_ne true hij]
  have hloop : ∀ (f : Nat) (listed : Array Bool) (a : Act) (x : World), listed.size = l.toArray.size → unlisted l.toArray.size listed ≤ f → MixInv l.toArray C J af listed a x → wpAny P .any l.toArray Q f listed a x := by
    intro f
    induction f with
    | zero =>
      intro listed a x hz hf h
      have hr : Region.ready .any l.toArray listed = [] := by
        rw [List.eq_nil_iff_forall_not_mem]
        intro i hi
        obtain ⟨hiu, o, ho, _⟩ := mem_ready.1 hi
        have := unlisted_set (n := l.toArray.size) (lt_of_some ho) hiu
        omega
      exact ⟨hr, hone listed a x hz h hr⟩
    | succ f ih =>
      intro listed a x hz hf h
      refine ⟨fun hr => hone listed a x hz h hr, fun i hi => ?_⟩
      obtain ⟨hiu, o, ho, _⟩ := mem_ready.1 hi
      have hl := unlisted_set (n := l.toArray.size) (lt_of_some ho) hiu
      exact wpOp_mono (fun a' x' h' => ih _ a' x' (by simpa using hz) (by omega) h') (hstep listed a x i hi h)
  have hL0 : ∀ j, j < l.length → (Array.replicate l.toArray.size false).getD j true = false := fun j hj => by simp [hj]
  refine hloop _ _ _ _ (by simp) ?_ ⟨hCs _ _ hC0 (Below.refl _ w).drew, fun i o ho hL => ?_, fun _ => Gh.zero, ⟨hsz _, hdf _, fun s hs => ?_⟩, ?_⟩
  · unfold unlisted
    exact Nat.le_trans (List.length_filter_le _ _) (by simp)
  · have hlt := lt_of_some ho
    simp only [List.size_toArray] at hlt
    rw [hL0 i hlt] at hL
    cases hL
  · refine hun _ s fun j oj hj hd => ?_
    have := hs j oj hj hd
    have hlt := lt_of_some hj
    simp only [List.size_toArray] at hlt
    rw [hL0 j hlt] at this
    cases this
  · refine hst _ _ _ w _ (fun _ _ => rfl) (h0 _ fun j hj => ?_) (Below.refl _ w).drew
    have : ∃ o, l.toArray[j]? = some o := by
      unfold spG at hN
      have := List.all_eq_true.1 hN j hj
      cases ho : l.toArray[j]? with
      | none => rw [ho] at this; cases this
      | some o => exact ⟨o, rfl⟩
    obtain ⟨o, ho⟩ := this
    have hlt := lt_of_some ho
    simp only [List.size_toArray] at hlt
    exact hL0 j hlt
theorem any_genG {Q : Exit → Act → World → Prop} {a0 : Act} {w : World} {l : List Oper} (w0 : World) (C : World → Prop) (mks sts : List Nat) (tg : Nat → Nat) (dep : Nat → List Nat) (mk : Nat → Gh → Value) (R : Nat → Bool → (Nat → Gh) → World → Prop) (Own : Nat → Gh → Nat → Prop) (af : (Nat → Gh) → Act)
    (hB : slotsOk l.toArray = true) (hB' : ∀ g, slotsOk (mixL (mks ++ sts) mk g 0 l).toArray = true) (hS : Region.noSelect l.toArray = true) (hN : spG l.toArray (mks ++ sts) = true)
    (hnd : (mks ++ sts).Nodup) (htg : ∀ k ∈ sts, tg k ∈ mks ∧ tg k ∈ dep k) (hinj : ∀ k ∈ sts, ∀ k' ∈ sts, tg k = tg k' → k = k') (hD : depB l (mks ++ sts) dep = true)
    (hkd : sts.all (fun k => match l[k]? with | some o => o.dst.isNone | none => false) = true)
    (hC0 : C w) (hCs : ∀ x x', C x → Below x.heap.size x x' → C x') (hCw : ∀ x, C x → Below w0.heap.size w0 x) (hCz : ∀ x, C x → w.heap.size ≤ x.heap.size) (hCo : ∀ x x' b, C x → OnlyB b x x' → w.heap.size ≤ b → C x')
    (hRb : ∀ j f g x x', R j f g x → Below x.heap.size x x' → R j f g x')
    (hRg : ∀ i f g j h x, j ≠ i → j ∉ dep i → (f = true → ∀ k ∈ sts, tg k = i → j ∉ dep k) → R i f g x → R i f (upd g j h) x)
    (hRo : ∀ i f g b x x', C x → R i f g x → OnlyB b x x' → w.heap.size ≤ b → ¬ Own i (g i) b → R i f g x')
    (hmake : ∀ j ∈ mks, ∀ o, l[j]? = some o → ∀ (g : Nat → Gh) (x : World), C x → (∀ i ∈ dep j, i ∈ mks → ∃ f, R i f g x ∧ ∀ b, Own i (g i) b → w.heap.size ≤ b ∧ b < x.heap.size) →
      Does P (fun v x' => ∃ h, v = mk j h ∧ R j false (upd g j h) x' ∧ Below x.heap.size x x' ∧ ∀ b, Own j h b → x.heap.size ≤ b ∧ b < x'.heap.size) ((execOp (af g).eval o).run P x))
    (hstore : ∀ k ∈ sts, ∀ o, l[k]? = some o → ∀ (g : Nat → Gh) (x : World), C x → R (tg k) false g x → (∀ i ∈ dep k, i ∈ mks → i ≠ tg k → ∃ f, R i f g x) →
      ∃ x' b, (execOp (af g).eval o).run P x = .ok .skip x' ∧ Own (tg k) (g (tg k)) b ∧ OnlyB b x x' ∧ R (tg k) true g x')
    (hq : ∀ g u, C u → (∀ (x : Grew u) (b o : Nat), b < u.heap.size → x.val.cell? ⟨b, o, none⟩ = u.cell? ⟨b, o, none⟩) → Hid (∀ x : Grew u, Below w0.heap.size w0 x.val) → Hid (∀ x : Grew u, C x.val) →
      wpQuiet P (mixL (mks ++ sts) mk g 0 l).toArray (fun w' => ∃ x : Grew u, w' = x.val) (fun a' => a' = af g) (mixL (mks ++ sts) mk g 0 l) a0)
    (hind : ∀ j ∈ mks ++ sts, ∀ g h, maskL (coneS l.toArray j 0 l []) 0 (af g).tmps.toList = maskL (coneS l.toArray j 0 l []) 0 (af (upd g j h)).tmps.toList)
    (hwa : ∀ g, ∀ j ∈ mks ++ sts, ∀ o, l.toArray[j]? = some o → Region.wanted o (yielded l.toArray (af g).tmps) = true)
    (hend : ∀ (g : Nat → Gh) (x : World), C x → (∀ j ∈ mks, R j (sts.any fun k => tg k == j) g x ∧ (∀ b, Own j (g j) b → w.heap.size ≤ b ∧ b < x.heap.size) ∧ ∀ i ∈ mks, i ≠ j → ∀ b, Own j (g j) b → ¬ Own i (g i) b) → Q .normal (af g) x) :
    wpAny P .any l.toArray Q l.toArray.size (Array.replicate l.toArray.size false) a0 { w with drawn := w.drawn + 1 } := by
  have hdst : ∀ k ∈ sts, ∀ o, l[k]? = some o → o.dst = none := fun k hk o ho => by
    have := List.all_eq_true.1 hkd k hk
    rw [ho] at this
    simpa using this
  have hns : ∀ j ∈ mks, j ∉ sts := fun j hj hs => by
    obtain ⟨-, -, h⟩ := List.nodup_append.1 hnd
    exact h j hj j hs rfl
  have hflag : ∀ (L : Nat → Bool) (j k : Nat), j ∈ mks → flagG sts tg (setL L j) k = flagG sts tg L k := fun L j k hj => by
    unfold flagG
    rw [Bool.eq_iff_iff, List.any_eq_true, List.any_eq_true]
    constructor
    · rintro ⟨s, hs, h⟩
      have : s ≠ j := fun e => hns j hj (e ▸ hs)
      rw [setL_ne this] at h
      exact ⟨s, hs, h⟩
    · rintro ⟨s, hs, h⟩
      have : s ≠ j := fun e => hns j hj (e ▸ hs)
      exact ⟨s, hs, by rw [setL_ne this]; exact h⟩
  refine any_mixG w0 C (mks ++ sts) mk (fun L g x => ∀ j ∈ mks, L j = true → R j (flagG sts tg L j) g x ∧ (∀ b, Own j (g j) b → w.heap.size ≤ b ∧ b < x.heap.size) ∧ ∀ i ∈ mks, i ≠ j → L i = true → ∀ b, Own j (g j) b → ¬ Own i (g i) b) af hB hB' hS hN hC0 hCs hCw ?_ ?_ hq hind hwa ?_ ?_
  · intro L h j hj hL
    rw [h j (List.mem_append_left _ hj)] at hL
    cases hL
  · intro L L' g x x' h hJ hb j hj hL
    have hf : flagG sts tg L' j = flagG sts tg L j := by
      unfold flagG
      rw [Bool.eq_iff_iff, List.any_eq_true, List.any_eq_true]
      constructor
      · rintro ⟨s, hs, h'⟩
        rw [h s (List.mem_append_right _ hs)] at h'
        exact ⟨s, hs, h'⟩
      · rintro ⟨s, hs, h'⟩
        exact ⟨s, hs, by rw [h s (List.mem_append_right _ hs)]; exact h'⟩
    rw [h j (List.mem_append_left _ hj)] at hL
    obtain ⟨h1, h2, h3⟩ := hJ j hj hL
    rw [hf]
    exact ⟨hRb _ _ _ _ _ h1 hb, fun b hb' => ⟨(h2 b hb').1, Nat.lt_of_lt_of_le (h2 b hb').2 hb.size⟩, fun i hi hne hLi => h3 i hi hne (by rw [← h i (List.mem_append_left _ hi)]; exact hLi)⟩
  · intro j hj o ho L g x hJ hC hB0 hL hafter hclo
    have hdj := depB_spec hD hclo hj ho hafter
    have hdd : ∀ i ∈ mks ++ sts, L i = true → ∀ d ∈ dep i, L d = true := fun i hi hLi d hd => by
      have : ∃ o, l[i]? = some o := by
        have h1 := List.all_eq_true.1 hD i hi
        cases h2 : l[i]? with
        | none => rw [h2] at h1; cases h1
        | some o => exact ⟨o, rfl⟩
      obtain ⟨o', ho'⟩ := this
      exact depB_spec hD hclo hi ho' (hclo i o' ho' hLi) d hd
    rcases List.mem_append.1 hj with hjm | hjs
    · have hmk := hmake j hjm o ho g x hC fun i hi him => by
        obtain ⟨h1, h2, -⟩ := hJ i him (hdj i hi)
        exact ⟨_, h1, h2⟩
      refine does_mono hmk ?_
      rintro v x' ⟨h, rfl, hR, hb, hO⟩
      refine ⟨hCs _ _ hC hb, .inr ⟨h, rfl, fun i hi hLi => ?_⟩⟩
      rw [hflag L j i hjm]
      by_cases hij : i = j
      · subst hij
        have hf0 : flagG sts tg L i = false := by
          unfold flagG
          rw [List.any_eq_false]
          intro k hk hh
          simp only [Bool.and_eq_true, beq_iff_eq] at hh
          have := hdd k (List.mem_append_right _ hk) hh.2 (tg k) (htg k hk).2
          rw [hh.1, hL] at this
          cases this
        rw [hf0]
        refine ⟨hR, fun b hb' => ?_, fun i' hi' hne hLi' b hb' => ?_⟩
        · rw [upd_self] at hb'
          have := hO b hb'
          exact ⟨Nat.le_trans (hCz x hC) this.1, this.2⟩
        · rw [upd_self] at hb'
          rw [upd_ne hne]
          intro hb2
          rw [setL_ne hne] at hLi'
          have h1 := (hO b hb').1
          have h2 := ((hJ i' hi' hLi').2.1 b hb2).2
          omega
      · rw [setL_ne hij] at hLi
        obtain ⟨h1, h2, h3⟩ := hJ i hi hLi
        refine ⟨hRg i _ g j h x' (Ne.symm hij) (fun hd => ?_) (fun hf k hk hki hd => ?_) (hRb _ _ _ _ _ h1 hb), fun b hb' => ?_, fun i' hi' hne hLi' b hb' => ?_⟩
        · have := hdd i (List.mem_append_left _ hi) hLi j hd
          rw [hL] at this
          cases this
        · have hLk : L k = true := by
            unfold flagG at hf
            obtain ⟨k', hk', hh⟩ := List.any_eq_true.1 hf
            simp only [Bool.and_eq_true, beq_iff_eq] at hh
            have := hinj k' hk' k hk (hh.1.trans hki.symm)
            rw [← this]
            exact hh.2
          have := hdd k (List.mem_append_right _ hk) hLk j hd
          rw [hL] at this
          cases this
        · rw [upd_ne hij] at hb'
          have := h2 b hb'
          exact ⟨this.1, Nat.lt_of_lt_of_le this.2 hb.size⟩
        · rw [upd_ne hij] at hb'
          by_cases hi'j : i' = j
          · subst hi'j
            rw [upd_self]
            intro hb2
            have h1 := (hO b hb2).1
            have h2' := (h2 b hb').2
            omega
          · rw [upd_ne hi'j]
            rw [setL_ne hi'j] at hLi'
            exact h3 i' hi' hne hLi' b hb'
    · obtain ⟨htm, htd⟩ := htg j hjs
      have hLm := hdj _ htd
      obtain ⟨m1, m2, m3⟩ := hJ _ htm hLm
      have hf0 : flagG sts tg L (tg j) = false := by
        unfold flagG
        rw [List.any_eq_false]
        intro k hk hh
        simp only [Bool.and_eq_true, beq_iff_eq] at hh
        have := hinj k hk j hjs hh.1
        rw [this, hL] at hh
        cases hh.2
      rw [hf0] at m1
      obtain ⟨x', b, r1, r2, r3, r4⟩ := hstore j hjs o ho g x hC m1 fun i hi him hne => ⟨_, (hJ i him (hdj i hi)).1⟩
      have hbw := m2 b r2
      have hsz := (r3.below 0 (Nat.zero_le _)).size
      refine does_skip r1 ⟨hCo _ _ _ hC r3 hbw.1, .inl ⟨hdst j hjs o ho, fun i hi hLi => ?_⟩⟩
      have hij : i ≠ j := fun e => hns i hi (e ▸ hjs)
      rw [setL_ne hij] at hLi
      by_cases him : i = tg j
      · subst him
        have hf1 : flagG sts tg (setL L j) (tg j) = true := by
          unfold flagG
          rw [List.any_eq_true]
          exact ⟨j, hjs, by rw [setL_self]; simp⟩
        rw [hf1]
        refine ⟨r4, fun b' hb' => ?_, fun i' hi' hne hLi' => ?_⟩
        · have := m2 b' hb'; exact ⟨this.1, Nat.lt_of_lt_of_le this.2 hsz⟩
        · rw [setL_ne (show i' ≠ j from fun e => hns i' hi' (e ▸ hjs))] at hLi'
          exact m3 i' hi' hne hLi'
      · have hf1 : flagG sts tg (setL L j) i = flagG sts tg L i := by
          unfold flagG
          rw [Bool.eq_iff_iff, List.any_eq_true, List.any_eq_true]
          constructor
          · rintro ⟨s, hs, h'⟩
            simp only [Bool.and_eq_true, beq_iff_eq] at h'
            have : s ≠ j := fun e => him (by rw [← h'.1, e])
            rw [setL_ne this] at h'
            exact ⟨s, hs, by simp [h'.1, h'.2]⟩
          · rintro ⟨s, hs, h'⟩
            simp only [Bool.and_eq_true, beq_iff_eq] at h'
            have : s ≠ j := fun e => by rw [e, hL] at h'; cases h'.2
            exact ⟨s, hs, by rw [setL_ne this]; simp [h'.1, h'.2]⟩
        rw [hf1]
        obtain ⟨h1, h2, h3⟩ := hJ i hi hLi
        refine ⟨hRo _ _ _ b _ _ hC h1 r3 hbw.1 (fun ho' => h3 (tg j) htm (Ne.symm him) hLm b ho' r2), fun b' hb' => ?_, fun i' hi' hne hLi' => ?_⟩
        · have := h2 b' hb'; exact ⟨this.1, Nat.lt_of_lt_of_le this.2 hsz⟩
        · rw [setL_ne (show i' ≠ j from fun e => hns i' hi' (e ▸ hjs))] at hLi'
          exact h3 i' hi' hne hLi'
  · intro g x hJ hC hB0
    refine hend g x hC fun j hj => ?_
    obtain ⟨h1, h2, h3⟩ := hJ j hj rfl
    refine ⟨?_, h2, fun i hi hne => h3 i hi hne rfl⟩
    have : flagG sts tg (fun _ => true) j = sts.any fun k => tg k == j := by simp [flagG]
    rw [← this]
    exact h1
end
end Go.Proofs

set_option linter.unusedSimpArgs false
set_option linter.unusedVariables false
namespace Go.Proofs

/-! Finer bounds: of the 120 products. -/
def fctN : Nat → Nat
  | 0 => 1
  | n + 1 => (n + 1) * fctN n
theorem minorC_bound2 {f : Nat → Nat → Int} {M : List Int} {row set Z : Nat} : ∀ (c : Nat) (acc sg : Int), (sg = 1 ∨ sg = -1) → (∀ j, j < c → (f row j).natAbs ≤ 400) → (∀ j, j < c → (set >>> j) % 2 = 1 → (M.getD (set - 2 ^ j) 0).natAbs ≤ Z) → (minorC f M row set c acc sg).natAbs ≤ acc.natAbs + pop c set * (400 * Z)
  | 0, acc, _, _, _, _ => by unfold minorC; omega
  | c + 1, acc, sg, hs, hf, hM => by
    unfold minorC pop
    have hsg : (-sg = 1 ∨ -sg = -1) := by omega
    split
    · rename_i hb
      have := minorC_bound2 c acc sg hs (fun j hj => hf j (by omega)) fun j hj => hM j (by omega)
      rw [hb, Nat.add_zero]
      exact this
    · rename_i hb
      have hb1 : (set >>> c) % 2 = 1 := by omega
      have hfm := abs_mul (hf c (by omega)) (hM c (by omega) hb1)
      have h1 : ∀ acc', acc'.natAbs ≤ acc.natAbs + 400 * Z → (minorC f M row set c acc' (-sg)).natAbs ≤ acc.natAbs + (pop c set + 1) * (400 * Z) := fun acc' ha => by
        have := minorC_bound2 c acc' (-sg) hsg (fun j hj => hf j (by omega)) fun j hj => hM j (by omega)
        rw [Nat.add_mul]
        omega
      rw [hb1]
      refine h1 _ ?_
      split
      · omega
      · rw [Int.mul_assoc]
        rcases hs with rfl | rfl <;> omega
theorem dpM_bound2 {f : Nat → Nat → Int} {n : Nat} (hn : n ≤ 5) (hf : SmallF f n) : ∀ s, s < 2 ^ n → ∀ k, k ≤ s → ((dpM f n s).getD k 0).natAbs ≤ fctN (pop n k) * 400 ^ pop n k
  | 0, _, k, hk => by
    obtain rfl : k = 0 := by omega
    have : ∀ m, pop m 0 = 0 := fun m => by
      induction m with
      | zero => rfl
      | succ m ih => unfold pop; rw [ih]; simp
    rw [this]
    simp [dpM, fctN]
  | s + 1, hs, k, hk => by
    have ih := dpM_bound2 hn hf s (by omega)
    have hl := dpM_len f n s
    unfold dpM
    by_cases hks : k ≤ s
    · rw [getD_append_left (by omega)]
      exact ih k hks
    · obtain rfl : k = s + 1 := by omega
      rw [getD_append_last (by omega)]
      have hn6 : n ∈ List.range 6 := List.mem_range.2 (by omega)
      have hsr : s + 1 ∈ List.range (2 ^ n) := List.mem_range.2 hs
      have hp1 := pop_pos n hn6 _ hsr (by omega)
      have hpn := pop_le n hn6 _ hsr
      unfold minorS
      have := minorC_bound2 (f := f) (M := dpM f n s) (row := pop n (s + 1) - 1) (set := s + 1) (Z := fctN (pop n (s + 1) - 1) * 400 ^ (pop n (s + 1) - 1)) n 0 1 (.inl rfl) (fun j hj => hf _ _ (by omega) hj) fun j hj hb => by
        obtain ⟨e1, e2⟩ := pop_sub n hn6 _ hsr j (List.mem_range.2 hj) hb
        have h2 := Nat.two_pow_pos j
        have := ih (s + 1 - 2 ^ j) (by omega)
        rwa [show pop n (s + 1 - 2 ^ j) = pop n (s + 1) - 1 by omega] at this
      refine Nat.le_trans this ?_
      obtain ⟨p, hp⟩ : ∃ p, pop n (s + 1) = p + 1 := ⟨pop n (s + 1) - 1, by omega⟩
      rw [hp]
      simp only [Nat.add_sub_cancel, Int.natAbs_zero, Nat.zero_add, Nat.pow_succ, fctN]
      refine Nat.le_of_eq ?_
      ac_rfl
theorem detP_bound2 {f : Nat → Nat → Int} {n : Nat} (hn : n ≤ 5) (hf : SmallF f n) : (detP f n).natAbs ≤ 1228800000000000 := by
  unfold detP
  have h2 := Nat.two_pow_pos n
  have := dpM_bound2 hn hf (2 ^ n - 1) (by omega) (2 ^ n - 1) (Nat.le_refl _)
  refine Nat.le_trans this ?_
  have hp := pop_le n (List.mem_range.2 (by omega)) (2 ^ n - 1) (List.mem_range.2 (by omega))
  have h5 : pop n (2 ^ n - 1) ≤ 5 := by omega
  generalize pop n (2 ^ n - 1) = p at h5
  have : ∀ p, p ≤ 5 → fctN p * 400 ^ p ≤ 1228800000000000 := by decide
  exact this p h5
theorem solL_small {r : List (List Int)} {l : List Int} {den : Int} (h : solL r = some (l, den)) (h5 : r.length ≤ 5) (hs : SmallR r) : l.length = r.length ∧ den.natAbs ≤ 1228800000000000 ∧ 0 < den ∧ Small 1228800000000000 l := by
  have hb : ∀ inst, (detL r inst).natAbs ≤ 1228800000000000 := fun inst => by
    have := detP_bound2 h5 (hs.col (qOf inst) r.length)
    rw [colQ_colF] at this
    exact this
  have hsg : ∀ d x : Int, (sgnI d * x).natAbs = x.natAbs := fun d x => by
    unfold sgnI
    split <;> omega
  unfold solL at h
  split at h
  · cases h
  rename_i hd
  obtain ⟨rfl, rfl⟩ : _ ∧ _ := by simpa using h
  refine ⟨by simp, by rw [hsg]; exact hb _, ?_, fun x hx => ?_⟩
  · unfold sgnI
    split <;> omega
  · obtain ⟨i, -, rfl⟩ := List.mem_map.1 hx
    rw [hsg]
    exact hb _
theorem IntsAt.at' {T : TypeId} {W : World} {B : Nat} {l : List Int} (h : IntsAt T W B l) : At 1 Zc W (some ⟨B, 0, none⟩) l := by
  intro k x hx
  refine ⟨B, 0, rfl, h.size, fun j v hv => ?_⟩
  cases j with
  | zero => simp [Zc] at hv; subst hv; simpa using h.load hx
  | succ j => simp [Zc] at hv
/-- The weights' numbers, as far as they have been written. -/
theorem putW_small {l : List Int} {K : Nat} (hl : Small K l) : ∀ (t : List Nat) (k : Nat) (W : List Int), Small K W → Small K (putW l k t W)
  | [], _, _, h => h
  | i :: t, k, W, h => by
    unfold putW
    refine putW_small hl t (k + 1) _ fun x hx => ?_
    rcases List.mem_or_eq_of_mem_set hx with hx | rfl
    · exact h x hx
    · exact hl.get _
theorem putW_snoc (l : List Int) : ∀ (t : List Nat) (k : Nat) (W : List Int) (i : Nat), putW l k (t ++ [i]) W = (putW l k t W).set i (l.getD (k + t.length + 1) 0)
  | [], k, W, i => rfl
  | j :: t, k, W, i => by
    simp only [List.cons_append, putW, List.length_cons]
    rw [putW_snoc l t (k + 1) _ i, show k + 1 + t.length + 1 = k + (t.length + 1) + 1 by omega]
theorem putW_take (l : List Int) {t : List Nat} {W : List Int} {k i : Nat} (h : t[k]? = some i) : putW l 0 (t.take (k + 1)) W = (putW l 0 (t.take k) W).set i (l.getD (k + 1) 0) := by
  have hk : k < t.length := (List.getElem?_eq_some_iff.1 h).1
  rw [List.take_add_one, h]
  have := putW_snoc l (t.take k) 0 W i
  rwa [List.length_take, Nat.min_eq_left (by omega), Nat.zero_add] at this
/-- The first of the tight entries whose number is below zero. -/
theorem neg_any {l : List Int} {k n : Nat} (hk : k < n) (h : l.getD (k + 1) 0 < 0) : (List.range n).any (fun k => l.getD (k + 1) 0 < 0) = true := by
  rw [List.any_eq_true]
  exact ⟨k, List.mem_range.2 hk, by simpa using h⟩
theorem neg_none {l : List Int} {n : Nat} (h : ∀ k, k < n → ¬ (l.getD (k + 1) 0 < 0)) : (List.range n).any (fun k => l.getD (k + 1) 0 < 0) = false := by
  rw [List.any_eq_false]
  intro k hk
  simpa using h k (List.mem_range.1 hk)
theorem levOk_drop (es : List Ex) (den lev : Int) (W : List Int) : ∀ (ws : List Int) (k0 : Nat), levOk es den lev W k0 ws = true ↔ ∀ j, j < ws.length → lev ≤ ws.getD j 0 * den + putsL es W (k0 + j)
  | [], _ => by simp [levOk]
  | w :: ws, k0 => by
    unfold levOk
    rw [Bool.and_eq_true, decide_eq_true_eq, levOk_drop es den lev W ws (k0 + 1)]
    constructor
    · rintro ⟨h1, h2⟩ j hj
      cases j with
      | zero => simpa using h1
      | succ j =>
        have := h2 j (by simpa using hj)
        rwa [show k0 + 1 + j = k0 + (j + 1) by omega] at this
    · intro h
      refine ⟨by simpa using h 0 (by simp), fun j hj => ?_⟩
      have := h (j + 1) (by simpa using hj)
      rwa [show k0 + (j + 1) = k0 + 1 + j by omega] at this
theorem levOk_no {es : List Ex} {den lev : Int} {W ws : List Int} {j : Nat} (hj : j < ws.length) (h : ws.getD j 0 * den + putsL es W j < lev) : levOk es den lev W 0 ws = false := by
  rw [Bool.eq_false_iff]
  intro hh
  have := (levOk_drop es den lev W ws 0).1 hh j hj
  rw [Nat.zero_add] at this
  omega
theorem levOk_yes {es : List Ex} {den lev : Int} {W ws : List Int} (h : ∀ j, j < ws.length → ¬ (ws.getD j 0 * den + putsL es W j < lev)) : levOk es den lev W 0 ws = true :=
  (levOk_drop es den lev W ws 0).2 fun j hj => by have := h j hj; rw [Nat.zero_add]; omega
/-- A number that a divisor divides. -/
theorem div_dvd {x g : Int} (h0 : 0 < g) (hd : g ∣ x) : x.tdiv g = x / g ∧ (x / g).natAbs ≤ x.natAbs := by
  obtain ⟨y, rfl⟩ := hd
  have hg : g ≠ 0 := by omega
  rw [Int.mul_tdiv_cancel_left _ hg, Int.mul_ediv_cancel_left _ hg]
  refine ⟨rfl, ?_⟩
  rw [Int.natAbs_mul]
  exact Nat.le_mul_of_pos_left _ (by omega)
theorem wrap_div {x g : Int} {K : Nat} (h0 : 0 < g) (hd : g ∣ x) (hx : x.natAbs ≤ K) (hK : K ≤ 9000000000000000000) : IntKind.i64.wrap (x.tdiv g) = x / g := by
  obtain ⟨h1, h2⟩ := div_dvd h0 hd
  rw [h1]
  exact IntWalk.i64_in _ (by omega)
theorem own_of_ints {w : World} {R n base : Nat} {l : List Int} (h : IntsAt 3 w R l) (hl : l.length = n) (hn : n ≤ 1000) (hb : base ≤ R) : w.ownsRow base 3 1 (.slice (some ⟨R, 0, none⟩) n n) n (l.map (Value.int .i64)) := by
  refine ⟨by simpa using hl, .inr ⟨R, n, _, rfl, hb, h, Nat.le_refl _, by unfold maxLen; omega, by rw [encZ_size]; omega, ?_⟩⟩
  simp only [encZ, Nat.mul_one, List.size_toArray, List.toList_toArray]
  rw [List.take_of_length_le (by simp; omega)]
theorem map_div_step {W : List Int} {g : Int} {k : Nat} (h : k < W.length) : (((W.take k).map (· / g)) ++ W.drop k).set k (W.getD k 0 / g) = (W.take (k + 1)).map (· / g) ++ W.drop (k + 1) := by
  have hx := List.getElem?_eq_getElem h
  rw [List.getD_eq_getElem?_getD, hx, List.take_add_one, hx, List.drop_eq_getElem_cons h, List.set_append_right _ _ (by simp; omega), List.map_append, List.append_assoc]
  rw [show k - ((W.take k).map (· / g)).length = 0 from by simp; omega]
  rfl
theorem map_div_at {W : List Int} {g : Int} {k : Nat} (h : k < W.length) : (((W.take k).map (· / g)) ++ W.drop k)[k]? = some (W.getD k 0) := by
  rw [List.getElem?_append_right (by simp; omega)]
  simp [Nat.min_eq_left (Nat.le_of_lt h), List.getD_eq_getElem?_getD, h]
end Go.Proofs
