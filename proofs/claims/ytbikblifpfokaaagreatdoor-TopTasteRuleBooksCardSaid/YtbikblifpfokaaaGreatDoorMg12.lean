import Derived.Test.YtbikblifpfokaaaGreatDoorMg11
set_option linter.unusedSimpArgs false
set_option linter.unusedVariables false
namespace Go.Proofs
open Go.RowKit
section
variable {P : Program}
def mkMQ (m : Nat) (n : Nat) : Nat → Gh → Value := fun j h => if j = m then .slice (some ⟨h.b, 0, none⟩) 1 1 else rowG n h
/-- A drawn region that makes a row and appends it to a list that the call owns ('v', in a slot); all else is quiet. -/
theorem region_mq {id : Nat} {Q : Exit → Act → World → Prop} {a0 : Act} {w : World} {l : List Oper} (w0 : World) (C : World → Prop) (m q : Nat) (z : Obj)
    (base : Nat) (e : TypeId) (sz : Nat) (v : Value) (n : Nat) (xs ys : List Value) (af : (Nat → Gh) → Act)
    (hm : P.follows .mixedOrders = true) (hB : slotsOk l.toArray = true) (hB' : ∀ g, slotsOk (mixL [m, q] (mkMQ m (n + 1)) g 0 l).toArray = true) (hS : Region.noSelect l.toArray = true) (hN : spB l.toArray [m, q] = true)
    (hne : m ≠ q)
    (hd2 : (match l[q]? with | some o => o.after.any (fun e => Region.binds .any e && e.on == m) | none => false) = true)
    (hC0 : C w) (hCs : ∀ x x', C x → Below x.heap.size x x' → C x') (hCw : ∀ x, C x → Below w0.heap.size w0 x)
    (hCg : ∀ x x' row, C x → x.grownBy x' row → (∀ b, row = some b → base ≤ b) → C x')
    (hown : w.ownsRow base e sz v n xs)
    (hq : ∀ g u, C u → (∀ (x : Grew u) (b o : Nat), b < u.heap.size → x.val.cell? ⟨b, o, none⟩ = u.cell? ⟨b, o, none⟩) → Hid (∀ x : Grew u, Below w0.heap.size w0 x.val) → Hid (∀ x : Grew u, C x.val) → Hid (u.ownsRow base e sz v n xs ∨ True) →
      wpQuiet P (mixL [m, q] (mkMQ m (n + 1)) g 0 l).toArray (fun w' => ∃ x : Grew u, w' = x.val) (fun a' => a' = af g) (mixL [m, q] (mkMQ m (n + 1)) g 0 l) a0)
    (hind : ∀ j ∈ [m, q], ∀ g h, maskL (coneS l.toArray j 0 l []) 0 (af g).tmps.toList = maskL (coneS l.toArray j 0 l []) 0 (af (upd g j h)).tmps.toList)
    (hm1 : ∀ o, l[m]? = some o → ∀ g x, (execOp (af g).eval o).run P x = .ok (.value (.slice (some ⟨x.heap.size, 0, none⟩) 1 1)) (x.alloc z))
    (hq1 : ∀ o, l[q]? = some o → ∀ (g : Nat → Gh) x, C x → x.ownsRow base e sz v n xs → x.heap[(g m).b]? = some z → ∃ v' x', (execOp (af g).eval o).run P x = .ok (.value v') x' ∧ x'.ownsRow base e sz v' (n + 1) (xs ++ ys) ∧ x.grownBy x' v.ownBlock)
    (hend : ∀ (g : Nat → Gh) x, C x → x.ownsRow base e sz (rowG (n + 1) (g q)) (n + 1) (xs ++ ys) → Q .normal (af g) x) :
    (Code.region id l.toArray true).wp P Q a0 w := by
  have afterQ : ∀ {L : Nat → Bool} {o : Oper}, l[q]? = some o → (∀ e ∈ o.after, Region.binds .any e = true → L e.on = true) → L m = true := by
    intro L o ho haft
    rw [ho] at hd2
    dsimp only at hd2
    obtain ⟨e, he, hb⟩ := Array.any_eq_true'.1 hd2
    simp only [Bool.and_eq_true, beq_iff_eq] at hb
    have h1 := haft e he hb.1
    rw [hb.2] at h1
    exact h1
  refine region_mixC w0 C [m, q] (mkMQ m (n + 1)) (fun L g x => (L q = true → L m = true) ∧ (L q = false → L m = true → x.heap[(g m).b]? = some z) ∧ (L q = false → x.ownsRow base e sz v n xs) ∧ (L q = true → x.ownsRow base e sz (rowG (n + 1) (g q)) (n + 1) (xs ++ ys))) af hm hB hB' hS hN hC0 hCs hCw ?_ ?_ (fun g u h1 h2 h3 h4 => hq g u h1 h2 h3 h4 (.inr trivial)) hind ?_ ?_
  · intro L h
    have a2 := h m (by simp)
    have a3 := h q (by simp)
    exact ⟨fun h => (by rw [a3] at h; cases h), fun _ h => (by rw [a2] at h; cases h), fun _ => hown, fun h => (by rw [a3] at h; cases h)⟩
  · rintro L L' g x x' h ⟨j1, j2, j3, j4⟩ hb
    have a2 := h m (by simp)
    have a3 := h q (by simp)
    rw [a2, a3]
    exact ⟨j1, fun h h' => bk_keep hb (j2 h h'), fun h => owns_below (j3 h) hb, fun h => owns_below (j4 h) hb⟩
  · intro j hj o ho L g x ⟨j1, j2, j3, j4⟩ hC hb0 hL hafter
    simp only [List.mem_cons, List.not_mem_nil, or_false] at hj
    rcases hj with rfl | rfl
    · have lq : L q = false := by
        cases hq0 : L q with
        | false => rfl
        | true => rw [j1 hq0] at hL; cases hL
      refine does_value (hm1 o ho g x) ⟨hCs _ _ hC (new_below _ _), .inr ⟨{ Gh.zero with b := x.heap.size }, by simp [mkMQ], ?_⟩⟩
      rw [setL_self, setL_ne (Ne.symm hne), upd_self, upd_ne (Ne.symm hne), lq]
      exact ⟨(fun h => by cases h), fun _ _ => bk_new _ _ rfl, fun h => (j3 lq).alloc _, (fun h => by cases h)⟩
    · have lm := afterQ ho hafter
      obtain ⟨v', x', r1, r2, r3⟩ := hq1 o ho g x hC (j3 hL) (j2 hL lm)
      obtain ⟨gB, cap, rfl⟩ : ∃ gB cap, v' = .slice (some ⟨gB, 0, none⟩) (n + 1) cap := by
        obtain ⟨gB, cap, h, _⟩ := r2.form (by omega)
        exact ⟨gB, cap, h⟩
      refine does_value r1 ⟨hCg _ _ _ hC r3 (fun b hb => ((j3 hL).lt b hb).1), .inr ⟨{ Gh.zero with a1 := some ⟨gB, 0, none⟩, c1 := cap }, by simp [mkMQ, Ne.symm hne, rowG], ?_⟩⟩
      rw [setL_self, setL_ne hne, upd_self, upd_ne hne]
      exact ⟨fun _ => lm, (fun h => by cases h), (fun h => by cases h), fun _ => r2⟩
  · intro g x ⟨j1, j2, j3, j4⟩ hC hb0
    exact hend g x hC (j4 rfl)
end
end Go.Proofs

set_option linter.unusedSimpArgs false
set_option linter.unusedVariables false
namespace Go.Proofs
open Go.RowKit
section
variable {P : Program}
/-! Drawn regions whose last operation waits for all others (an assignment to a slot that others look at). -/
theorem region_last {id : Nat} {Q : Exit → Act → World → Prop} {a0 : Act} {w : World} {l : List Oper} (n : Nat) (oz : Oper) (hm : P.follows .mixedOrders = true) (hn : l.length = n + 1) (hz : l[n]? = some oz)
    (hB : slotsOk (l.take n).toArray = true) (hG : l.all (fun o => o.guard.isNone) = true) (hA : (List.range n).all (fun i => oz.after.any fun e => Region.binds .any e && e.on == i) = true) (hE : oz.after.all (fun e => !Region.binds .any e || decide (e.on < n)) = true)
    (h : wpAny P .any (l.take n).toArray (fun e a x => match e with | .normal => oz.wp P a x (fun a' x' => Q .normal a' x') Q | e => Q e a x) (l.take n).toArray.size (Array.replicate (l.take n).toArray.size false) a0 { w with drawn := w.drawn + 1 }) :
    (Code.region id l.toArray true).wp P Q a0 w := by
  have H := slotsOk_spec hB
  have hlen : (l.take n).length = n := by simp; omega
  have hgn : ∀ (i : Nat) (o : Oper), l[i]? = some o → o.guard = none := fun i o ho => by
    have := List.all_eq_true.1 hG o (List.mem_of_getElem? ho)
    simpa using this
  have get0 : ∀ i, i < n → (l.take n).toArray[i]? = l.toArray[i]? := fun i hi => by simp [List.getElem?_take_of_lt hi]
  have getn : ∀ i, n ≤ i → (l.take n).toArray[i]? = none := fun i hi => by simp [List.getElem?_eq_none (show (l.take n).length ≤ i by omega)]
  have pushD : ∀ (listed : Array Bool) (b d : Bool) (i : Nat), listed.size = n → i < n → (listed.push b).getD i d = listed.getD i d := fun listed b d i hs hi => by
    rw [Array.getD_eq_getD_getElem?, Array.getD_eq_getD_getElem?, Array.getElem?_push_lt (by omega)]
    simp [Array.getElem?_eq_getElem (show i < listed.size by omega)]
  have pushL : ∀ (listed : Array Bool) (b d : Bool), listed.size = n → (listed.push b).getD n d = b := fun listed b d hs => by
    rw [Array.getD_eq_getD_getElem?, ← hs]
    simp
  have rdy : ∀ (listed : Array Bool) (b : Bool) (i : Nat), listed.size = n → i < n → (i ∈ Region.ready .any l.toArray (listed.push b) ↔ i ∈ Region.ready .any (l.take n).toArray listed) := fun listed b i hs hi => by
    rw [mem_ready, mem_ready, pushD _ _ _ _ hs hi, get0 i hi]
    constructor
    · rintro ⟨h1, o, ho, h2⟩
      refine ⟨h1, o, ho, fun e he hb => ?_⟩
      have := H.after i o e ((get0 i hi).trans ho) he hb
      rw [← pushD listed b false e.on hs (by omega)]
      exact h2 e he hb
    · rintro ⟨h1, o, ho, h2⟩
      refine ⟨h1, o, ho, fun e he hb => ?_⟩
      have := H.after i o e ((get0 i hi).trans ho) he hb
      rw [pushD listed b false e.on hs (by omega)]
      exact h2 e he hb
  have gen : ∀ (f : Nat) (listed : Array Bool) (a : Act) (x : World), listed.size = n → wpAny P .any (l.take n).toArray (fun e a x => match e with | .normal => oz.wp P a x (fun a' x' => Q .normal a' x') Q | e => Q e a x) f listed a x → wpAny P .any l.toArray Q (f + 1) (listed.push false) a x := by
    have fin : ∀ (f : Nat) (listed : Array Bool) (a : Act) (x : World), listed.size = n → (∀ i, i < n → listed.getD i true = true) → oz.wp P a x (fun a' x' => Q .normal a' x') Q → wpAny P .any l.toArray Q (f + 1) (listed.push false) a x := by
      intro f listed a x hs hu hw
      have hrn : n ∈ Region.ready .any l.toArray (listed.push false) := by
        rw [mem_ready]
        refine ⟨pushL _ _ _ hs, oz, by simpa using hz, fun e he hb => ?_⟩
        have h1 := Array.all_eq_true'.1 hE e he
        rw [hb] at h1
        simp only [Bool.not_true, Bool.false_or, decide_eq_true_eq] at h1
        rw [pushD _ _ _ _ hs h1]
        have := hu e.on h1
        rw [Array.getD_eq_getD_getElem?, Array.getElem?_eq_getElem (by omega)] at this ⊢
        exact this
      refine ⟨fun h0 => (by rw [h0] at hrn; cases hrn), fun i hi => ?_⟩
      have hin : i = n := by
        obtain ⟨h1, o, ho, -⟩ := mem_ready.1 hi
        have hlt : i < l.length := by simpa using lt_of_some ho
        rcases Nat.lt_or_ge i n with h | h
        · rw [pushD _ _ _ _ hs h, hu i h] at h1
          cases h1
        · omega
      subst hin
      have hset : (listed.push false).setIfInBounds i true = listed.push true := by
        apply Array.ext_getElem?
        intro j
        rw [Array.getElem?_setIfInBounds, Array.getElem?_push, Array.getElem?_push]
        simp only [Array.size_push, hs]
        by_cases h : i = j
        · subst h; simp [hs]
        · simp [h, hs, Ne.symm h]
      have hlast : wpAny P .any l.toArray Q f (listed.push true) = fun a' x' => wpAny P .any l.toArray Q f (listed.push true) a' x' := rfl
      have hr0 : Region.ready .any l.toArray (listed.push true) = [] := by
        rw [List.eq_nil_iff_forall_not_mem]
        intro j hj
        obtain ⟨h1, o, ho, -⟩ := mem_ready.1 hj
        have hlt : j < l.length := by simpa using lt_of_some ho
        rcases Nat.lt_or_ge j i with h | h
        · rw [pushD _ _ _ _ hs h, hu j h] at h1
          cases h1
        · have : j = i := by omega
          subst this
          rw [pushL _ _ _ hs] at h1
          cases h1
      have hK : ∀ a' x', Q .normal a' x' → wpAny P .any l.toArray Q f (listed.push true) a' x' := fun a' x' h => by
        cases f with
        | zero => exact ⟨hr0, h⟩
        | succ f => exact ⟨fun _ => h, fun j hj => by rw [hr0] at hj; cases hj⟩
      unfold wpOp
      have hzi : l.toArray[i]? = some oz := by simpa using hz
      simp only [hzi]
      have hwn : Region.wanted oz (yielded l.toArray a.tmps) = true := by unfold Region.wanted; rw [hgn i oz hz]
      rw [if_pos hwn, hset]
      exact .inl (Oper.wp_mono hK hw)
    intro f
    induction f with
    | zero =>
      rintro listed a x hs ⟨hr, hq⟩
      exact fin 0 listed a x hs (fun i hi => all_up H (by simp [hs]; omega) hr i (by simp; omega)) hq
    | succ f ih =>
      rintro listed a x hs ⟨hr, hq⟩
      by_cases hr0 : Region.ready .any (l.take n).toArray listed = []
      · exact fin (f + 1) listed a x hs (fun i hi => all_up H (by simp [hs]; omega) hr0 i (by simp; omega)) (hr hr0)
      · have hnn : ∀ i, i ∈ Region.ready .any l.toArray (listed.push false) → i < n := by
          intro i hi
          obtain ⟨h1, o, ho, h2⟩ := mem_ready.1 hi
          have hlt : i < l.length := by simpa using lt_of_some ho
          rcases Nat.lt_or_ge i n with h | h
          · exact h
          · have hin : i = n := by omega
            subst hin
            exfalso
            obtain ⟨j, hj⟩ := List.exists_mem_of_ne_nil _ hr0
            obtain ⟨h3, o3, ho3, -⟩ := mem_ready.1 hj
            have hji : j < i := by
              rcases Nat.lt_or_ge j i with h | h
              · exact h
              · rw [getn j h] at ho3; cases ho3
            have hzo : o = oz := by
              rw [show l.toArray[i]? = l[i]? by simp, hz] at ho
              exact (Option.some.inj ho).symm
            subst hzo
            have h4 := List.all_eq_true.1 hA j (List.mem_range.2 hji)
            obtain ⟨e, he, hb⟩ := Array.any_eq_true'.1 h4
            simp only [Bool.and_eq_true, beq_iff_eq] at hb
            have h5 := h2 e he hb.1
            rw [hb.2, pushD _ _ _ _ hs hji] at h5
            rw [Array.getD_eq_getD_getElem?, Array.getElem?_eq_getElem (by omega)] at h3 h5
            simp only [Option.getD_some] at h3 h5
            rw [h3] at h5
            cases h5
        refine ⟨fun h0 => ?_, fun i hi => ?_⟩
        · exfalso
          obtain ⟨j, hj⟩ := List.exists_mem_of_ne_nil _ hr0
          have hji : j < n := by
            obtain ⟨h3, o3, ho3, -⟩ := mem_ready.1 hj
            rcases Nat.lt_or_ge j n with h | h
            · exact h
            · rw [getn j h] at ho3; cases ho3
          have := (rdy listed false j hs hji).2 hj
          rw [h0] at this
          cases this
        · have hin := hnn i hi
          have hi0 := (rdy listed false i hs hin).1 hi
          have h6 := hq i hi0
          obtain ⟨-, o, ho, -⟩ := mem_ready.1 hi0
          have hol : l.toArray[i]? = some o := (get0 i hin).symm.trans ho
          have hg := hgn i o (by simpa using hol)
          unfold wpOp at h6 ⊢
          simp only [ho] at h6
          simp only [hol]
          have hw1 : ∀ y, Region.wanted o y = true := fun y => by unfold Region.wanted; rw [hg]
          rw [if_pos (hw1 _)] at h6
          rw [if_pos (hw1 _)]
          have hset : (listed.push false).setIfInBounds i true = (listed.setIfInBounds i true).push false := by
            apply Array.ext_getElem?
            intro j
            rw [Array.getElem?_setIfInBounds, Array.getElem?_push, Array.getElem?_push, Array.getElem?_setIfInBounds]
            simp only [Array.size_push, Array.size_setIfInBounds, hs]
            by_cases h : i = j
            · subst h; simp [hs, hin, Nat.lt_succ_of_lt hin, Nat.ne_of_lt hin]
            · simp [h]
          rw [hset]
          have hmono : ∀ a' x', wpAny P .any (l.take n).toArray (fun e a x => match e with | .normal => oz.wp P a x (fun a' x' => Q .normal a' x') Q | e => Q e a x) f (listed.setIfInBounds i true) a' x' → wpAny P .any l.toArray Q (f + 1) ((listed.setIfInBounds i true).push false) a' x' := fun a' x' h => ih _ a' x' (by simp [hs]) h
          rcases h6 with h6 | ⟨h6, h7⟩
          · left
            refine Oper.wp_mono hmono ?_
            unfold Oper.wp at h6 ⊢
            generalize (execOp a.eval o).run P x = r at *
            cases r with
            | ok nx w' =>
              cases nx with
              | enter f' args => exact (show Calls P f' args w' _ from h6).mono fun e w'' he => by cases e <;> exact he
              | _ => exact h6
            | halt v w' => cases v <;> exact h6
          · right
            exact ⟨h6, h7⟩
  have hpr : (Array.replicate (l.take n).toArray.size false).push false = Array.replicate l.toArray.size false := by
    rw [← Array.replicate_succ]
    congr 1
    simp
    omega
  have := gen _ _ _ _ (by simp; omega) h
  rw [hpr] at this
  refine wp_region_any hm ?_
  have e : (l.take n).toArray.size + 1 = l.toArray.size := by simp; omega
  rwa [e] at this
theorem any_mixC {Q : Exit → Act → World → Prop} {a0 : Act} {w : World} {l : List Oper} (w0 : World) (C : World → Prop) (sp : List Nat) (mk : Nat → Gh → Value) (J : (Nat → Bool) → (Nat → Gh) → World → Prop) (af : (Nat → Gh) → Act) 
    (hB : slotsOk l.toArray = true) (hB' : ∀ g, slotsOk (mixL sp mk g 0 l).toArray = true) (hS : Region.noSelect l.toArray = true) (hN : spB l.toArray sp = true) (hC0 : C w) (hCs : ∀ x x', C x → Below x.heap.size x x' → C x') (hCw : ∀ x, C x → Below w0.heap.size w0 x)
    (h0 : ∀ L, (∀ j ∈ sp, L j = false) → J L (fun _ => Gh.zero) w)
    (hst : ∀ L L' g x x', (∀ j ∈ sp, L' j = L j) → J L g x → Below x.heap.size x x' → J L' g x')
    (hq : ∀ g u, C u → (∀ (x : Grew u) (b o : Nat), b < u.heap.size → x.val.cell? ⟨b, o, none⟩ = u.cell? ⟨b, o, none⟩) → Hid (∀ x : Grew u, Below w0.heap.size w0 x.val) → Hid (∀ x : Grew u, C x.val) →
      wpQuiet P (mixL sp mk g 0 l).toArray (fun w' => ∃ x : Grew u, w' = x.val) (fun a' => a' = af g) (mixL sp mk g 0 l) a0)
    (hind : ∀ j ∈ sp, ∀ g h, maskL (coneS l.toArray j 0 l []) 0 (af g).tmps.toList = maskL (coneS l.toArray j 0 l []) 0 (af (upd g j h)).tmps.toList)
    (hsp : ∀ j ∈ sp, ∀ o, l[j]? = some o → ∀ (L : Nat → Bool) (g : Nat → Gh) (x : World), J L g x → C x → Below w0.heap.size w0 x → L j = false → (∀ e ∈ o.after, Region.binds .any e = true → L e.on = true) → (∀ (i : Nat) (o : Oper), l[i]? = some o → L i = true → ∀ e ∈ o.after, Region.binds .any e = true → L e.on = true) →
      Does P (fun v x' => C x' ∧ ((o.dst = none ∧ J (setL L j) g x') ∨ ∃ h, v = mk j h ∧ J (setL L j) (upd g j h) x')) ((execOp (af g).eval o).run P x))
    (hend : ∀ g x, J (fun _ => true) g x → C x → Below w0.heap.size w0 x → Q .normal (af g) x) :
    wpAny P .any l.toArray Q l.toArray.size (Array.replicate l.toArray.size false) a0 { w with drawn := w.drawn + 1 } := by
  have H := slotsOk_spec hB
  have H' := fun g => slotsOk_spec (hB' g)
  have hsel := Region.noSelect_spec hS
  have hgn : ∀ j ∈ sp, ∀ o, l.toArray[j]? = some o → o.guard = none := fun j hj o ho => by
    unfold spB at hN
    have := List.all_eq_true.1 hN j hj
    rw [ho] at this
    simpa using this
  have get' : ∀ g (j : Nat), (mixL sp mk g 0 l).toArray[j]? = (l.toArray[j]?).map fun o => if sp.contains j then yieldsC (mk j (g j)) o else o := fun g j => by
    have := mixL_get sp mk g l 0 j
    simpa using this
  have hdst : ∀ (g : Nat → Gh) (j : Nat) (o : Oper), (if sp.contains j = true then yieldsC (mk j (g j)) o else o).dst = o.dst := fun g j o => by split <;> rfl
  have hyd : ∀ (g : Nat → Gh) (t : Array Value) (k : Nat), yielded (mixL sp mk g 0 l).toArray t k = yielded l.toArray t k := fun g t k => by
    unfold yielded
    rw [get']
    cases l.toArray[k]? with
    | none => rfl
    | some o => simp only [Option.map_some, Option.bind_some, hdst]
  have hwt : ∀ (g : Nat → Gh) (o : Oper) (t : Array Value), Region.wanted o (yielded (mixL sp mk g 0 l).toArray t) = Region.wanted o (yielded l.toArray t) := fun g o t => by
    have : yielded (mixL sp mk g 0 l).toArray t = yielded l.toArray t := funext (hyd g t)
    rw [this]
  have hsel' : ∀ (g : Nat → Gh) (j : Nat) (o : Oper) cs b, (mixL sp mk g 0 l).toArray[j]? = some o → o.op ≠ .select cs b := fun g j o cs b ho => by
    rw [get'] at ho
    cases hj : l.toArray[j]? with
    | none => rw [hj] at ho; cases ho
    | some o' =>
      rw [hj] at ho
      simp only [Option.map_some, Option.some.injEq] at ho
      subst ho
      split
      · simp [yieldsC]
      · exact hsel j o' cs b hj
  have hfin := fun g u hu => fin_of_quiet (H' g) (hsel' g) (mixL sp mk g 0 l) 0 a0 (fun j => by simp) (hq g u hu (fun x => x.cell) (fun x => hCw _ (hCs _ _ hu x.ok)) (fun x => hCs _ _ hu x.ok))
  have hsz : ∀ g, a0.tmps.size = (af g).tmps.size := fun g => (hfin g w hC0).2.1
  have hdf : ∀ g, a0.defers = (af g).defers := fun g => (hfin g w hC0).2.2.1
  have hun : ∀ (g : Nat → Gh) (s : Nat), (∀ (j : Nat) (oj : Oper), l.toArray[j]? = some oj → oj.dst ≠ some s) → a0.tmps[s]? = (af g).tmps[s]? := fun g s hs => (hfin g w hC0).2.2.2 s fun j oj _ hj hd => by
    rw [get'] at hj
    cases hjj : l.toArray[j]? with
    | none => rw [hjj] at hj; cases hj
    | some o' =>
      rw [hjj] at hj
      simp only [Option.map_some, Option.some.injEq] at hj
      exact hs j o' hjj (by rw [← hd, ← hj]; exact (hdst g j o').symm)
  have hquiet : ∀ (g : Nat → Gh) (i : Nat) (o : Oper), i ∉ sp → l.toArray[i]? = some o → ∀ u, C u → ∃ v, YieldsIn P l.toArray (above u) o v (af g) ∧ ∀ s, o.dst = some s → s < (af g).tmps.size → (af g).tmps[s]? = some v := by
    intro g i o hi ho u hu
    have hc : sp.contains i = false := by simpa using hi
    have ho' : (mixL sp mk g 0 l).toArray[i]? = some o := by
      rw [get', ho]
      simp [hi]
    obtain ⟨v, hy, hv⟩ := (hfin g u hu).1 i o (Nat.zero_le _) ho'
    refine ⟨v, ?_, hv⟩
    rw [above_grew]
    unfold YieldsIn at *
    rwa [hwt] at hy
  have hres : ∀ (g : Nat → Gh) (j : Nat) (o : Oper) (d : Nat), j ∈ sp → l.toArray[j]? = some o → o.dst = some d → d < (af g).tmps.size → (af g).tmps[d]? = some (mk j (g j)) := by
    intro g j o d hj ho hd hlt
    have hc : sp.contains j = true := by simpa using hj
    have ho' : (mixL sp mk g 0 l).toArray[j]? = some (yieldsC (mk j (g j)) o) := by
      rw [get', ho]
      simp [hj]
    obtain ⟨v, hy, hv⟩ := (hfin g w hC0).1 j _ (Nat.zero_le _) ho'
    have := hv d hd hlt
    rw [this]
    rcases hy with ⟨_, h2⟩ | ⟨h1, _⟩
    · have h3 := h2 w ⟨⟨w, Below.refl _ _⟩, rfl⟩
      unfold Oper.quietAt at h3
      have h4 : (execOp (af g).eval (yieldsC (mk j (g j)) o)).run P w = .ok (.value (mk j (g j))) w := by unfold execOp yieldsC; rfl
      rw [h4] at h3
      simp only [Oper.quietUpon] at h3
      rw [h3.2]
    · unfold Region.wanted at h1
      rw [show (yieldsC (mk j (g j)) o).guard = none from hgn j hj o ho] at h1
      cases h1
  have hcone : ∀ (L : Nat → Bool), (∀ (i : Nat) (o : Oper), l.toArray[i]? = some o → L i = true → ∀ e ∈ o.after, Region.binds .any e = true → L e.on = true) → ∀ j, L j = false → ∀ d ∈ coneS l.toArray j 0 l [], ∃ (i : Nat) (o : Oper), l.toArray[i]? = some o ∧ o.dst = some d ∧ L i = false := by
    intro L hcl j hj
    refine coneS_spec (G := fun d => ∃ (i : Nat) (o : Oper), l.toArray[i]? = some o ∧ o.dst = some d ∧ L i = false) ?_ l 0 [] (fun k => by simp) (fun d hd => by simp at hd)
    intro i o d ho hd hor
    refine ⟨i, o, ho, hd, ?_⟩
    rcases hor with rfl | ⟨s, hs, i', o', ho', hd', hL⟩
    · exact hj
    · obtain ⟨_, e, he, hb, hon⟩ := H.look i o s i' o' ho hs ho' hd'
      cases hLi : L i with
      | false => rfl
      | true =>
        have := hcl i o ho hLi e he hb
        rw [hon, hL] at this
        cases this
  have hone : ∀ (listed : Array Bool) (a : Act) (x : World), listed.size = l.toArray.size → MixInv l.toArray C J af listed a x → Region.ready .any l.toArray listed = [] → Q .normal a x := by
    rintro listed a x hz ⟨hb, -, g, hag, hJ⟩ hr
    have hu := all_up H hz hr
    rw [agree_all hag hu]
    have : (fun j => listed.getD j true) = fun _ => true := funext fun j => by
      by_cases hj : j < l.toArray.size
      · exact hu j hj
      · simp [Array.getElem?_eq_none (show listed.size ≤ j by omega)]
    rw [this] at hJ
    exact hend g x hJ hb (hCw _ hb)
  have hstep : ∀ (listed : Array Bool) (a : Act) (x : World) (i : Nat), i ∈ Region.ready .any l.toArray listed → MixInv l.toArray C J af listed a x → wpOp P l.toArray Q i (fun a' x' => MixInv l.toArray C J af (listed.setIfInBounds i true) a' x') a x := by
    rintro listed a x i hi ⟨hb, hcl, g, hag, hJ⟩
    obtain ⟨hiu, o, ho, hall⟩ := mem_ready.1 hi
    have hlk := agree_look H hag ho hi
    have hcl' : ∀ (i' : Nat) (o' : Oper), l.toArray[i']? = some o' → (listed.setIfInBounds i true).getD i' true = true → ∀ e ∈ o'.after, Region.binds .any e = true → (listed.setIfInBounds i true).getD e.on true = true := by
      intro i' o' ho' hL e he hbd
      have key : listed.getD e.on true = true := by
        by_cases hii : i = i'
        · subst hii
          obtain rfl : o = o' := Option.some.inj (ho.symm.trans ho')
          exact getD_tt (hall e he hbd)
        · rw [getD_set_ne true hii] at hL
          exact hcl i' o' ho' hL e he hbd
      by_cases hon : i = e.on
      · rw [hon, set_self]
      · rw [getD_set_ne true hon]; exact key
    by_cases hisp : i ∈ sp
    · have hg := hgn i hisp o ho
      have hd := hsp i hisp o (by simpa using ho) _ g x hJ hb (hCw _ hb) hiu (fun e he hbd => getD_tt (hall e he hbd)) (fun i' o' ho' => hcl i' o' (by simpa using ho'))
      rw [← exec_same (hsel i o · · ho) hlk] at hd
      unfold wpOp
      simp only [ho]
      have hwn : Region.wanted o (yielded l.toArray a.tmps) = true := by unfold Region.wanted; rw [hg]
      rw [if_pos hwn]
      refine .inl (wp_does hd ?_)
      rintro v x' ⟨hb', hK⟩
      refine ⟨hb', hcl', ?_⟩
      rw [setL_listed]
      rcases hK with ⟨hdn, hJ'⟩ | ⟨h, rfl, hJ'⟩
      · exact ⟨g, agree_put H hag ho (fun s hs => by rw [hdn] at hs; cases hs), hJ'⟩
      · refine ⟨upd g i h, ⟨by rw [put_size]; exact hag.1.trans ((hsz g).symm.trans (hsz _)), by rw [put_defers]; exact hag.2.1.trans ((hdf g).symm.trans (hdf _)), fun s hs => ?_⟩, hJ'⟩
        by_cases hds : o.dst = some s
        · rw [hds]
          by_cases hlt : s < (af (upd g i h)).tmps.size
          · rw [put_at (by rw [hag.1, ← hsz g, hsz (upd g i h)]; exact hlt), hres _ i o s hisp ho hds hlt]
            unfold upd
            rw [if_pos rfl]
          · rw [put_out (by rw [hag.1, ← hsz g, hsz (upd g i h)]; exact hlt), Array.getElem?_eq_none (by omega)]
        · rw [put_get hds]
          have hs' : ∀ (j : Nat) (oj : Oper), l.toArray[j]? = some oj → oj.dst = some s → listed.getD j true = true := fun j oj hj hdj => by
            have hij : i ≠ j := by
              rintro rfl
              obtain rfl : o = oj := Option.some.inj (ho.symm.trans hj)
              exact hds hdj
            have := hs j oj hj hdj
            rwa [getD_set_ne true hij] at this
          rw [hag.2.2 s hs']
          refine maskL_same (hind i hisp g h) fun hc => ?_
          obtain ⟨j, oj, hj, hdj, hL⟩ := hcone (fun j => listed.getD j true) hcl i hiu s hc
          have := hs' j oj hj hdj
          rw [this] at hL
          cases hL
    · obtain ⟨v, hy, hv⟩ := hquiet g i o hisp ho x hb
      have hy' := yields_same (hsel i o · · ho) (fun s hs => (hlk s hs).symm) hy
      refine wp_yields ho hy' (Below.refl _ _) fun x' hx' => ⟨hCs _ _ hb hx', hcl', g, agree_put H hag ho hv, ?_⟩
      refine hst _ _ g x x' (fun j hj => ?_) hJ hx'
      have hij : i ≠ j := by rintro rfl; exact hisp hj
      rw [getD_set_ne true hij]
  have hloop : ∀ (f : Nat) (listed : Array Bool) (a : Act) (x : World), listed.size = l.toArray.size → unlisted l.toArray.size listed ≤ f → MixInv l.toArray C J af listed a x → wpAny P .any l.toArray Q f listed a x := by
    intro f
    induction f with
    | zero =>
      intro listed a x hz hf h
      have hr : Region.ready .any l.toArray listed = [] := by
        rw [List.eq_nil_iff_forall_not_mem]
        intro i hi
        obtain ⟨hiu, o, ho, _⟩ := mem_ready.1 hi
        have := unlisted_set (n := l.toArray.size) (lt_of_some ho) hiu
        omega
      exact ⟨hr, hone listed a x hz h hr⟩
    | succ f ih =>
      intro listed a x hz hf h
      refine ⟨fun hr => hone listed a x hz h hr, fun i hi => ?_⟩
      obtain ⟨hiu, o, ho, _⟩ := mem_ready.1 hi
      have hl := unlisted_set (n := l.toArray.size) (lt_of_some ho) hiu
      exact wpOp_mono (fun a' x' h' => ih _ a' x' (by simpa using hz) (by omega) h') (hstep listed a x i hi h)
  have hL0 : ∀ j, j < l.length → (Array.replicate l.toArray.size false).getD j true = false := fun j hj => by simp [hj]
  refine hloop _ _ _ _ (by simp) ?_ ⟨hCs _ _ hC0 (Below.refl _ w).drew, fun i o ho hL => ?_, fun _ => Gh.zero, ⟨hsz _, hdf _, fun s hs => ?_⟩, ?_⟩
  · unfold unlisted
    exact Nat.le_trans (List.length_filter_le _ _) (by simp)
  · have hlt := lt_of_some ho
    simp only [List.size_toArray] at hlt
    rw [hL0 i hlt] at hL
    cases hL
  · refine hun _ s fun j oj hj hd => ?_
    have := hs j oj hj hd
    have hlt := lt_of_some hj
    simp only [List.size_toArray] at hlt
    rw [hL0 j hlt] at this
    cases this
  · refine hst _ _ _ w _ (fun _ _ => rfl) (h0 _ fun j hj => ?_) (Below.refl _ w).drew
    have : ∃ o, l.toArray[j]? = some o := by
      unfold spB at hN
      have := List.all_eq_true.1 hN j hj
      cases ho : l.toArray[j]? with
      | none => rw [ho] at this; cases this
      | some o => exact ⟨o, rfl⟩
    obtain ⟨o, ho⟩ := this
    have hlt := lt_of_some ho
    simp only [List.size_toArray] at hlt
    exact hL0 j hlt
theorem any_mq {Q : Exit → Act → World → Prop} {a0 : Act} {w : World} {l : List Oper} (w0 : World) (C : World → Prop) (m q : Nat) (z : Obj)
    (base : Nat) (e : TypeId) (sz : Nat) (v : Value) (n : Nat) (xs ys : List Value) (af : (Nat → Gh) → Act)
    (hB : slotsOk l.toArray = true) (hB' : ∀ g, slotsOk (mixL [m, q] (mkMQ m (n + 1)) g 0 l).toArray = true) (hS : Region.noSelect l.toArray = true) (hN : spB l.toArray [m, q] = true)
    (hne : m ≠ q)
    (hd2 : (match l[q]? with | some o => o.after.any (fun e => Region.binds .any e && e.on == m) | none => false) = true)
    (hC0 : C w) (hCs : ∀ x x', C x → Below x.heap.size x x' → C x') (hCw : ∀ x, C x → Below w0.heap.size w0 x)
    (hCg : ∀ x x' v', C x → x'.ownsRow base e sz v' (n + 1) (xs ++ ys) → ((x.grownBy x' none ∧ v'.ownBlock = some x.heap.size) ∨ (x.grownBy x' v.ownBlock ∧ v'.ownBlock = v.ownBlock)) → C x')
    (hown : w.ownsRow base e sz v n xs)
    (hq : ∀ g u, C u → (∀ (x : Grew u) (b o : Nat), b < u.heap.size → x.val.cell? ⟨b, o, none⟩ = u.cell? ⟨b, o, none⟩) → Hid (∀ x : Grew u, Below w0.heap.size w0 x.val) → Hid (∀ x : Grew u, C x.val) → Hid (u.ownsRow base e sz v n xs ∨ True) →
      wpQuiet P (mixL [m, q] (mkMQ m (n + 1)) g 0 l).toArray (fun w' => ∃ x : Grew u, w' = x.val) (fun a' => a' = af g) (mixL [m, q] (mkMQ m (n + 1)) g 0 l) a0)
    (hind : ∀ j ∈ [m, q], ∀ g h, maskL (coneS l.toArray j 0 l []) 0 (af g).tmps.toList = maskL (coneS l.toArray j 0 l []) 0 (af (upd g j h)).tmps.toList)
    (hm1 : ∀ o, l[m]? = some o → ∀ g x, (execOp (af g).eval o).run P x = .ok (.value (.slice (some ⟨x.heap.size, 0, none⟩) 1 1)) (x.alloc z))
    (hq1 : ∀ o, l[q]? = some o → ∀ (g : Nat → Gh) x, C x → x.ownsRow base e sz v n xs → x.heap[(g m).b]? = some z → ∃ v' x', (execOp (af g).eval o).run P x = .ok (.value v') x' ∧ x'.ownsRow base e sz v' (n + 1) (xs ++ ys) ∧ ((x.grownBy x' none ∧ v'.ownBlock = some x.heap.size) ∨ (x.grownBy x' v.ownBlock ∧ v'.ownBlock = v.ownBlock)))
    (hend : ∀ (g : Nat → Gh) x, C x → x.ownsRow base e sz (rowG (n + 1) (g q)) (n + 1) (xs ++ ys) → Q .normal (af g) x) :
    wpAny P .any l.toArray Q l.toArray.size (Array.replicate l.toArray.size false) a0 { w with drawn := w.drawn + 1 } := by
  have afterQ : ∀ {L : Nat → Bool} {o : Oper}, l[q]? = some o → (∀ e ∈ o.after, Region.binds .any e = true → L e.on = true) → L m = true := by
    intro L o ho haft
    rw [ho] at hd2
    dsimp only at hd2
    obtain ⟨e, he, hb⟩ := Array.any_eq_true'.1 hd2
    simp only [Bool.and_eq_true, beq_iff_eq] at hb
    have h1 := haft e he hb.1
    rw [hb.2] at h1
    exact h1
  refine any_mixC w0 C [m, q] (mkMQ m (n + 1)) (fun L g x => (L q = true → L m = true) ∧ (L q = false → L m = true → x.heap[(g m).b]? = some z) ∧ (L q = false → x.ownsRow base e sz v n xs) ∧ (L q = true → x.ownsRow base e sz (rowG (n + 1) (g q)) (n + 1) (xs ++ ys))) af hB hB' hS hN hC0 hCs hCw ?_ ?_ (fun g u h1 h2 h3 h4 => hq g u h1 h2 h3 h4 (.inr trivial)) hind ?_ ?_
  · intro L h
    have a2 := h m (by simp)
    have a3 := h q (by simp)
    exact ⟨fun h => (by rw [a3] at h; cases h), fun _ h => (by rw [a2] at h; cases h), fun _ => hown, fun h => (by rw [a3] at h; cases h)⟩
  · rintro L L' g x x' h ⟨j1, j2, j3, j4⟩ hb
    have a2 := h m (by simp)
    have a3 := h q (by simp)
    rw [a2, a3]
    exact ⟨j1, fun h h' => bk_keep hb (j2 h h'), fun h => owns_below (j3 h) hb, fun h => owns_below (j4 h) hb⟩
  · intro j hj o ho L g x ⟨j1, j2, j3, j4⟩ hC hb0 hL hafter _
    simp only [List.mem_cons, List.not_mem_nil, or_false] at hj
    rcases hj with rfl | rfl
    · have lq : L q = false := by
        cases hq0 : L q with
        | false => rfl
        | true => rw [j1 hq0] at hL; cases hL
      refine does_value (hm1 o ho g x) ⟨hCs _ _ hC (new_below _ _), .inr ⟨{ Gh.zero with b := x.heap.size }, by simp [mkMQ], ?_⟩⟩
      rw [setL_self, setL_ne (Ne.symm hne), upd_self, upd_ne (Ne.symm hne), lq]
      exact ⟨(fun h => by cases h), fun _ _ => bk_new _ _ rfl, fun h => (j3 lq).alloc _, (fun h => by cases h)⟩
    · have lm := afterQ ho hafter
      obtain ⟨v', x', r1, r2, r3⟩ := hq1 o ho g x hC (j3 hL) (j2 hL lm)
      obtain ⟨gB, cap, rfl⟩ : ∃ gB cap, v' = .slice (some ⟨gB, 0, none⟩) (n + 1) cap := by
        obtain ⟨gB, cap, h, _⟩ := r2.form (by omega)
        exact ⟨gB, cap, h⟩
      refine does_value r1 ⟨hCg _ _ _ hC r2 r3, .inr ⟨{ Gh.zero with a1 := some ⟨gB, 0, none⟩, c1 := cap }, by simp [mkMQ, Ne.symm hne, rowG], ?_⟩⟩
      rw [setL_self, setL_ne hne, upd_self, upd_ne hne]
      exact ⟨fun _ => lm, (fun h => by cases h), (fun h => by cases h), fun _ => r2⟩
  · intro g x ⟨j1, j2, j3, j4⟩ hC hb0
    exact hend g x hC (j4 rfl)
/-- A cell of a list that is owned. -/
theorem owns_cell {w : World} {base e sz n m : Nat} {v v' : Value} {xs ys : List Value} {g : Nat} {c : Nat} (h : w.ownsRow base e sz v' m (xs ++ ys)) (hv : v = .slice (some ⟨g, 0, none⟩) n c) (hb : v'.ownBlock = v.ownBlock) {j : Nat} {u : Value} (hj : xs[j]? = some u) : w.cell? ⟨g, j, none⟩ = some u := by
  subst hv
  rcases h.2 with ⟨rfl, -⟩ | ⟨g', cap, cur, rfl, h2, h3, h4, h5, h6, h7⟩
  · cases hb
  · cases hb
    rw [bk_cell h3, ← Array.getElem?_toList]
    have hjl := (List.getElem?_eq_some_iff.1 hj).1
    have h8 : (cur.toList.take (m * sz))[j]? = some u := by
      rw [h7, List.getElem?_append_left hjl]
      exact hj
    rwa [List.getElem?_take_of_lt (by
      have h9 := h.1
      rw [List.length_append] at h9
      omega)] at h8
theorem run_append3 {w : World} (base : Nat) (t ty e : TypeId) (i : TypeInfo) (z : Value) (size bytes : Nat) (ht : P.underlying t = some (.slice e)) (hi : P.info? e = some i) (hz : i.zero = some z)
    (hsize : i.size = size) (hby : i.bytes = bytes) (hzs : z.cells.size = size)
    (v : Value) (n : Nat) (xs : List Value) (hown : w.ownsRow base e size v n xs)
    (a : Addr) (m c : Nat) (news : List Value) (hl : news.length = m * size) (hnews : ∀ j u, news[j]? = some u → w.cell? (a.add j) = some u) (h1 : ∀ u ∈ news, u.oneCell' = true) (hm : 0 < m)
    (h63 : n + m ≤ maxLen) (hbytes : (n + m) * bytes ≤ 140737488355328) (hbase : base ≤ w.heap.size) :
    ∃ v' w', (Builtin.append_ #[t, t] ty #[v, .slice (some a) m c]).run P w = .ok v' w' ∧ w'.ownsRow base e size v' (n + m) (xs ++ news) ∧ ((w.grownBy w' none ∧ v'.ownBlock = some w.heap.size) ∨ (w.grownBy w' v.ownBlock ∧ v'.ownBlock = v.ownBlock)) := by
  subst hsize
  subst hby
  have hsmall : n + m ≤ 9223372036854775807 := by simp only [maxLen] at h63; omega
  have hlen : (xs ++ news).length = (n + m) * i.size := by rw [List.length_append, hown.1, hl, Nat.add_mul]
  have grown : ∀ (old : Nat), old < n + m →
      (w.drew.alloc (.cells (xs.toArray ++ news.toArray ++ Builtin.zeroCells z.cells (grownCap w (n + m) old e - (n + m))) e)).ownsRow base e i.size
        (.slice (some ⟨w.heap.size, 0, none⟩) (n + m) (grownCap w (n + m) old e)) (n + m) (xs ++ news) ∧
      w.grownBy (w.drew.alloc (.cells (xs.toArray ++ news.toArray ++ Builtin.zeroCells z.cells (grownCap w (n + m) old e - (n + m))) e)) none := by
    intro old ho
    have hge := grownCap_ge w (n + m) old e
    have hcm : grownCap w (n + m) old e ≤ maxLen := grownCap_le_maxLen w (n + m) old e h63
    refine ⟨⟨hlen, .inr ⟨w.heap.size, _, _, rfl, hbase, heap_alloc_new w.drew _, hge, hcm, ?_, ?_⟩⟩, ⟨rfl, rfl, rfl, by simp, fun k hk _ => Below.heap_alloc w.drew _ k hk⟩⟩
    · simp only [Array.size_append, List.size_toArray, size_zeroCells, hzs, hown.1, hl, ← Nat.add_mul]
      congr 1
      omega
    · simp only [Array.toList_append, List.append_assoc]
      rw [← List.append_assoc, ← hlen]
      exact List.take_left
  rcases hown.2 with ⟨rfl, rfl⟩ | ⟨g, cap, cur, rfl, hbg, hg, hnc, hcm, hcs, htake⟩
  · have hx : xs = [] := List.eq_nil_of_length_eq_zero (by simpa using hown.1)
    subst hx
    have hr := run_append_nil (P := P) w t ty e i z ht hi hz a m c news hl hnews (by omega) (by omega) (by have hb := hbytes; simp only [Nat.zero_add] at hb; omega)
    have hgr := grown 0 (by omega)
    simp only [Nat.zero_add, List.nil_append, Array.empty_append] at hgr ⊢
    exact ⟨_, _, hr, hgr.1, .inl ⟨hgr.2, rfl⟩⟩
  · by_cases hroom : n + m ≤ cap
    · have hfit : n * i.size + news.length ≤ cur.size := by rw [hl, hcs, ← Nat.add_mul]; exact Nat.mul_le_mul_right _ hroom
      have hr := run_append_room (P := P) w t ty e i ht hi g n cap cur hg a m c news hl hnews h1 hroom hfit
      refine ⟨_, _, hr, ⟨hlen, .inr ⟨g, cap, _, rfl, hbg, setRow_heap w g cur _ e _ hg, hroom, hcm, ?_, ?_⟩⟩, .inr ⟨⟨rfl, rfl, rfl, by simp, fun k _ hk => setRow_other w g k _ (fun e => hk (by simp [Value.ownBlock, e]))⟩, rfl⟩⟩
      · simp only [List.size_toArray, List.length_append, List.length_take, List.length_drop, Array.length_toList]
        omega
      · rw [htake, ← hlen]
        exact List.take_left
    · have hr := run_append_grow (P := P) (w := w) t ty e i z ht hi hz ⟨g, 0, none⟩ n cap xs hown.1 (fun j u hj => by
        rw [Addr.add_lit, Nat.zero_add, bk_cell hg, ← Array.getElem?_toList]
        rw [← htake] at hj
        rwa [List.getElem?_take_of_lt (by have h9 := (List.getElem?_eq_some_iff.1 hj).1; rw [List.length_take] at h9; omega)] at hj) a m c news hl hnews (by omega) (by omega) (growslice_fits (by omega) hbytes)
      have hgr := grown cap (by omega)
      exact ⟨_, _, hr, hgr.1, .inl ⟨hgr.2, rfl⟩⟩
theorem exec_append_at {o : Oper} {a : Act} {x : World} (s y : Operand) (t e : TypeId) (i : TypeInfo) (z0 v : Value) (size bytes base n b : Nat) (xs ys : List Value) (tb : TypeId)
    (ho : o.op = .call { callee := .builtin .append, args := #[s, y], argTypes := #[t, t] }) (hs : a.eval s = v) (hy : a.eval y = .slice (some ⟨b, 0, none⟩) 1 1)
    (ht : P.underlying t = some (.slice e)) (hi : P.info? e = some i) (hz : i.zero = some z0) (hsize : i.size = size) (hby : i.bytes = bytes) (hzs : z0.cells.size = size) (hsz : 0 < size)
    (hown : x.ownsRow base e size v n xs) (hb : x.heap[b]? = some (.cells ys.toArray tb (0, 0))) (hl : ys.length = size) (h1 : ∀ u ∈ ys, u.oneCell' = true) (h63 : n + 1 ≤ maxLen) (hbytes : (n + 1) * bytes ≤ 140737488355328) (hbase : base ≤ x.heap.size) :
    ∃ v' x', (execOp a.eval o).run P x = .ok (.value v') x' ∧ x'.ownsRow base e size v' (n + 1) (xs ++ ys) ∧ ((x.grownBy x' none ∧ v'.ownBlock = some x.heap.size) ∨ (x.grownBy x' v.ownBlock ∧ v'.ownBlock = v.ownBlock)) := by
  have hc : ∀ j u, ys[j]? = some u → x.cell? (Addr.add ⟨b, 0, none⟩ j) = some u := by
    intro j u hj
    have e : (Addr.add ⟨b, 0, none⟩ j) = ⟨b, j, none⟩ := by
      unfold Addr.add
      split <;> simp_all
    rw [e, bk_cell hb]
    simpa using hj
  obtain ⟨v', x', r1, r2, r3⟩ := run_append3 (P := P) (w := x) base t o.type e i z0 size bytes ht hi hz hsize hby hzs v n xs hown ⟨b, 0, none⟩ 1 1 ys (by rw [hl, Nat.one_mul]) hc h1 (by decide) h63 hbytes hbase
  refine ⟨v', x', ?_, r2, r3⟩
  unfold execOp
  simp only [ho, resolve, invoke, builtin, Sem.run_bind, Sem.run_pure, Result.andThen_ok, List.map_toArray, List.map_cons, List.map_nil, hs, hy, r1]
/-- What an append leaves of the cells of the list that was appended to. -/
theorem app_cell {x x' : World} {base e sz n m : Nat} {v v' : Value} {xs ys : List Value} {g c : Nat} (hv : v = .slice (some ⟨g, 0, none⟩) n c) (h : x'.ownsRow base e sz v' m (xs ++ ys)) (hb : (x.grownBy x' none ∧ v'.ownBlock = some x.heap.size) ∨ (x.grownBy x' v.ownBlock ∧ v'.ownBlock = v.ownBlock)) {j : Nat} {u : Value} (hj : xs[j]? = some u) (hc : x.cell? ⟨g, j, none⟩ = some u) : x'.cell? ⟨g, j, none⟩ = some u := by
  rcases hb with ⟨hb, -⟩ | ⟨-, hb⟩
  · rw [← hc]
    exact World.cell?_of_block (a := ⟨g, j, none⟩) (hb.block g (World.block_lt_of_cell? _ _ hc) (by simp))
  · exact owns_cell h hv hb hj
end
end Go.Proofs

set_option linter.unusedSimpArgs false
set_option linter.unusedVariables false
namespace Go.Proofs
open Go.RowKit

/-! The walk of marks through a book. -/
def Nc (a : Nat) : List Value := [.int .i64 a]
theorem at_nat {w : World} {A : Option Addr} {l : List Int} (h : At 1 Ic w A l) (h0 : ∀ x ∈ l, 0 ≤ x) : At 1 Nc w A (l.map Int.toNat) := by
  intro k x hx
  rw [List.getElem?_map] at hx
  cases hl : l[k]? with
  | none => rw [hl] at hx; cases hx
  | some y =>
    rw [hl] at hx
    simp only [Option.map_some, Option.some.injEq] at hx
    subst hx
    obtain ⟨b, o, hA, hb, hc⟩ := h k y hl
    refine ⟨b, o, hA, hb, fun j v hv => hc j v ?_⟩
    have := h0 y (List.mem_of_getElem? hl)
    rw [← hv]
    unfold Ic Nc
    rw [Int.toNat_of_nonneg this]
def trail (nx : Nat → Nat → Nat) (b : Nat) (u : List Nat) : List Nat := (List.range (u.length + 1)).map fun i => runW nx b (u.take i)
theorem trail_snoc (nx : Nat → Nat → Nat) (b : Nat) (u : List Nat) (a : Nat) : trail nx b (u ++ [a]) = trail nx b u ++ [nx (runW nx b u) a] := by
  unfold trail
  rw [List.length_append, show u.length + [a].length + 1 = (u.length + 1) + 1 from rfl, List.range_succ, List.map_append]
  congr 1
  · apply List.map_congr_left
    intro i hi
    rw [List.mem_range] at hi
    rw [List.take_append_of_le_length (by omega)]
  · simp only [List.map_cons, List.map_nil]
    rw [List.take_of_length_le (by simp), runW_snoc]
theorem trail_len (nx : Nat → Nat → Nat) (b : Nat) (u : List Nat) : (trail nx b u).length = u.length + 1 := by unfold trail; simp
theorem trail_last (nx : Nat → Nat → Nat) (b : Nat) (u : List Nat) : (trail nx b u)[u.length]? = some (runW nx b u) := by
  unfold trail
  rw [List.getElem?_map, List.getElem?_range (by omega)]
  simp
theorem runW_lt {cl : List Cl} {mk : List ByteArray} {bg : Int} (hR : RightB mk bg cl) : ∀ (u : List Nat) (s : Nat), s < cl.length → (∀ a ∈ u, a < mk.length) → runW (nxC cl) s u < cl.length
  | [], s, hs, _ => hs
  | a :: u, s, hs, hu => by
    have h1 : nxC cl s a < cl.length := by
      obtain ⟨x, hx⟩ : ∃ x, cl[s]? = some x := ⟨_, List.getElem?_eq_getElem hs⟩
      have hxm := List.mem_of_getElem? hx
      have ha := hu a (List.mem_cons_self ..)
      obtain ⟨y, hy⟩ : ∃ y, x.nx[a]? = some y := ⟨_, List.getElem?_eq_getElem (by have := (hR.sh x hxm).1; omega)⟩
      have := hR.nx x hxm y (List.mem_of_getElem? hy)
      have := hR.c1
      unfold nxC
      rw [hx]
      simp [List.getD, hy]
      omega
    exact runW_lt hR u (nxC cl s a) h1 fun x hx => hu x (List.mem_cons_of_mem _ hx)
theorem flatN (l : List Nat) : (l.flatMap Nc).length = l.length := by rw [flatB_len Nc 1 (fun _ => rfl), Nat.mul_one]
theorem flatN_map : ∀ (l : List Nat), l.flatMap Nc = l.map fun (a : Nat) => Value.int .i64 a
  | [] => rfl
  | x :: l => by rw [List.flatMap_cons, List.map_cons, flatN_map l]; rfl
theorem flatN_get (l : List Nat) (k a : Nat) (h : l[k]? = some a) : (l.flatMap Nc)[k]? = some (.int .i64 a) := by
  rw [flatN_map, List.getElem?_map, h]
  rfl
set_option maxRecDepth 100000 in
set_option maxHeartbeats 2000000 in
theorem walk_any (mA cA : Option Addr) (mk : List ByteArray) (cl : List Cl) (mc cc bg : Nat) (A : Option Addr) (u : List Nat) (c : Nat) (w : World) (hR : RightB mk bg cl) (hat : BkAt w mA mk cA cl) (hau : At 1 Nc w A u) (hu : ∀ a ∈ u, a < mk.length) (hul : u.length ≤ 40) :
    Calls Tryz.prog 47 #[.agg #[.slice mA mk.length mc, .int .i64 bg, .slice cA cl.length cc], .slice A u.length c] w fun e w' => (∃ v, e = .returned v ∧ w'.ownsRow w.heap.size 3 1 v (u.length + 1) ((trail (nxC cl) bg u).flatMap Nc)) ∧ Below w.heap.size w w' := by
  obtain ⟨i0, z0, hi, hz0, hz1, hzs, hz2⟩ := info_of (t := 3) (n := 1) (b := 8) (by kernel_rfl)
  have hat' := Lib.hid hat
  have hau' := Lib.hid hau
  have hu' := Lib.hid hu
  have hR' := Lib.hid hR
  have hbg : bg < cl.length := by
    have h1 := hR.bg
    have h2 := hR.c1
    omega
  obtain ⟨N, hN⟩ : ∃ N, cl.length = N := ⟨_, rfl⟩
  obtain ⟨M, hM⟩ : ∃ M, mk.length = M := ⟨_, rfl⟩
  obtain ⟨m, hm⟩ : ∃ m, u.length = m := ⟨_, rfl⟩
  have hN' := Lib.hid hN
  have hM' := Lib.hid hM
  have hm' := Lib.hid hm
  have hN8 : N ≤ 8 := by have := hR.c1; omega
  have hM6 : M ≤ 6 := by have := hR.m1; omega
  rw [hN, hM, hm]
  rw [hm] at hul
  rw [hN] at hbg
  clear hR hat hau hu hN hM hm
  go_enter Tryz.func47, Tryz.ntmps47
  go_wp2_with fail
  have B0 := bk_keep (new_below (w.alloc (.cells #[.slice mA M mc, .int .i64 bg, .slice cA N cc] 62)) (.cells #[.int .i64 bg] 3)) (bk_new w (.cells #[.slice mA M mc, .int .i64 bg, .slice cA N cc] 62) rfl)
  have hown0 : ((w.alloc (.cells #[.slice mA M mc, .int .i64 bg, .slice cA N cc] 62)).alloc (.cells #[.int .i64 bg] 3)).ownsRow (w.heap.size + 1) 3 1 (.slice (some ⟨w.heap.size + 1, 0, none⟩) 1 1) 1 ((trail (nxC cl) bg (u.take 0)).flatMap Nc) := by
    refine ⟨rfl, .inr ⟨w.heap.size + 1, 1, #[.int .i64 bg], rfl, Nat.le_refl _, ?_, Nat.le_refl _, by decide, rfl, rfl⟩⟩
    exact bk_new (w.alloc (.cells #[.slice mA M mc, .int .i64 bg, .slice cA N cc] 62)) _ (by simp)
  have hbw0 : Below w.heap.size w ((w.alloc (.cells #[.slice mA M mc, .int .i64 bg, .slice cA N cc] 62)).alloc (.cells #[.int .i64 bg] 3)) := by go_grown
  generalize (w.alloc (.cells #[.slice mA M mc, .int .i64 bg, .slice cA N cc] 62)).alloc (.cells #[.int .i64 bg] 3) = w0 at *
  go_loopw [14, 5] (fun i v wr => ∃ k : Nat, k ≤ m ∧ i = .int .i64 k ∧ Below w.heap.size w wr ∧ wr.heap[w.heap.size]? = some (.cells #[.slice mA M mc, .int .i64 bg, .slice cA N cc] 62 (0, 0)) ∧ Hid (wr.ownsRow (w.heap.size + 1) 3 1 v (k + 1) ((trail (nxC cl) bg (u.take k)).flatMap Nc)))
    (fun i _ _ => m - (intOf i).toNat)
  case atStart => exact ⟨0, Nat.zero_le _, rfl, hbw0, B0, hown0⟩
  case round =>
    clear hown0 hbw0 B0
    obtain ⟨k, hk, rfl, hbw, B0, hown⟩ := hrel
    by_cases hlt : k < m
    · obtain ⟨a, ha⟩ : ∃ a, u[k]? = some a := ⟨_, List.getElem?_eq_getElem (by rw [hm'.out]; exact hlt)⟩
      have haM := hu'.out a (List.mem_of_getElem? ha)
      obtain ⟨s, hs⟩ : ∃ s, runW (nxC cl) bg (u.take k) = s := ⟨_, rfl⟩
      have hsN : s < cl.length := by
        rw [← hs]
        exact runW_lt hR'.out _ _ (by rw [hN'.out]; exact hbg) fun x hx => hu'.out x (List.mem_of_mem_take hx)
      obtain ⟨x, hx⟩ : ∃ x, cl[s]? = some x := ⟨_, List.getElem?_eq_getElem hsN⟩
      have hxm := List.mem_of_getElem? hx
      obtain ⟨hxl, -⟩ := hR'.out.sh x hxm
      obtain ⟨y, hy⟩ : ∃ y, x.nx[a]? = some y := ⟨_, List.getElem?_eq_getElem (by omega)⟩
      have hyr := hR'.out.nx x hxm y (List.mem_of_getElem? hy)
      have hyv : y = (nxC cl s a : Int) := by
        unfold nxC
        rw [hx]
        simp [List.getD, hy]
        omega
      have htk : u.take (k + 1) = u.take k ++ [a] := by
        obtain ⟨hk', he⟩ := List.getElem?_eq_some_iff.1 ha
        rw [List.take_succ_eq_append_getElem hk', he]
      have hnext : Hid ((trail (nxC cl) bg (u.take k)).flatMap Nc ++ [.int .i64 y] = (trail (nxC cl) bg (u.take (k + 1))).flatMap Nc) := by
        unfold Hid
        rw [htk, trail_snoc, List.flatMap_append, hs, hyv]
        rfl
      have hlen : (u.take k).length = k := by rw [List.length_take, hm'.out]; omega
      have hlast : ((trail (nxC cl) bg (u.take k)).flatMap Nc)[k]? = some (.int .i64 s) := by
        have := trail_last (nxC cl) bg (u.take k)
        rw [hlen, hs] at this
        exact flatN_get _ _ _ this
      obtain ⟨b1, o1, rfl, hb1, hc1⟩ := hau'.out k a ha
      obtain ⟨b2, o2, rfl, hb2, hc2⟩ := hat'.out.cls s x hx
      obtain ⟨b3, o3, hA3, hb3, hc3⟩ := hat'.out.nxs x hxm a y hy
      obtain ⟨nm, nA, nx, nc, rA, rs, rc⟩ := x
      dsimp only at hxl hA3
      subst hA3
      have a0 := hc1 0 _ rfl
      have x1 := hc2 1 _ rfl
      have y0 := hc3 0 _ rfl
      dsimp only at x1
      simp only [Nat.add_zero, Nat.mul_one] at a0 y0
      rw [hxl, hM'.out] at x1
      have a0' := Lib.hid a0
      have x1' := Lib.hid x1
      have y0' := Lib.hid y0
      replace a0 := (gcell hbw b1 (o1 + k) hb1).trans a0
      clear x1 y0
      rw [hM'.out] at haM
      rw [hN'.out] at hsN
      have hkI : (k : Int) < (m : Int) := by omega
      have haI : (a : Int) < (M : Int) := by omega
      have hsI : (s : Int) < (N : Int) := by omega
      have hkw : IntKind.i64.wrap (((k + 1 : Nat) : Int) - 1) = (k : Int) := by
        have : ((k + 1 : Nat) : Int) - 1 = (k : Int) := by omega
        rw [this]
        exact IntWalk.i64_in _ (by omega)
      have hkl : (k : Int) < ((k + 1 : Nat) : Int) := by omega
      obtain ⟨g5, c5, rfl, hg5, hg5s⟩ := hown.out.form (by omega)
      have l0 : wr.cell? ⟨g5, k, none⟩ = some (.int .i64 s) := by
        have hnil : (trail (nxC cl) bg (u.take k)).flatMap Nc ++ [] = (trail (nxC cl) bg (u.take k)).flatMap Nc := List.append_nil _
        exact owns_cell (ys := []) (by rw [hnil]; exact hown.out) rfl rfl hlast
      have hlast' := Lib.hid hlast
      obtain ⟨XS, hXS⟩ : ∃ XS, (trail (nxC cl) bg (u.take k)).flatMap Nc = XS := ⟨_, rfl⟩
      rw [hXS] at hown hnext hlast'
      have hb1r : b1 < wr.heap.size := Nat.lt_of_lt_of_le hb1 hbw.size
      clear hc1 hc2 hc3 hx hy ha hs hxm hyv htk hXS hlen hlast
      have C0 := bk3 B0
      go_wp2_with fail
      refine region_last 18 _ (by kernel_rfl) rfl rfl (by kernel_rfl) (by kernel_rfl) (by kernel_rfl) (by kernel_rfl) ?_
      simp only [List.take_succ_cons, List.take_zero]
      apply any_mq w (fun x => Below w.heap.size w x ∧ x.heap[w.heap.size]? = some (.cells #[.slice mA M mc, .int .i64 bg, .slice (some ⟨b2, o2, none⟩) N cc] 62 (0, 0)) ∧ x.cell? ⟨g5, k, none⟩ = some (.int .i64 s)) 16 17 (.cells #[.int .i64 y] 3 (0, 0)) (w.heap.size + 1) 3 1 (.slice (some ⟨g5, 0, none⟩) (k + 1) c5) (k + 1) XS [.int .i64 y]
      case hB => kernel_rfl
      case hB' => intro g; kernel_rfl
      case hS => kernel_rfl
      case hN => kernel_rfl
      case hne => decide
      case hd2 => kernel_rfl
      case hC0 => exact ⟨hbw, B0, l0⟩
      case hCs => exact fun x x' ⟨h1, h2, h3⟩ hb => ⟨via h1 hb, bk_keep hb h2, (gcell hb g5 k (World.block_lt_of_cell? _ _ h3)).trans h3⟩
      case hCw => exact fun x h => h.1
      case hCg =>
        rintro x x' v' ⟨h1, h2, h3⟩ ho hor
        have hgb : ∃ row, x.grownBy x' row ∧ ∀ r, row = some r → w.heap.size + 1 ≤ r := by
          rcases hor with ⟨h, -⟩ | ⟨h, -⟩
          · exact ⟨_, h, fun r e => by cases e⟩
          · exact ⟨_, h, fun r e => by cases e; exact hg5⟩
        obtain ⟨row, hgr, hr⟩ := hgb
        refine ⟨h1.grown hgr h1.size (fun r e => by have := hr r e; omega), ?_, app_cell rfl ho hor hlast'.out h3⟩
        rw [hgr.block w.heap.size (Array.getElem?_eq_some_iff.1 h2).1 (fun e => by have := hr _ e.symm; omega)]
        exact h2
      case hown => exact hown.out
      case hq =>
        rintro g x ⟨h1, h2, h3⟩ hgc hbx hbX -
        have X0 := bk3 h2
        have e1 := (gcell h1 b2 (o2 + s * 3 + 1) hb2).trans x1'.out
        have e2 := (gcell h1 b3 (o3 + a) hb3).trans y0'.out
        have hx0 : w.heap.size < x.heap.size := (Array.getElem?_eq_some_iff.1 h2).1
        have hx2 : b2 < x.heap.size := Nat.lt_of_lt_of_le hb2 h1.size
        have hx3 : b3 < x.heap.size := Nat.lt_of_lt_of_le hb3 h1.size
        have hx5 : g5 < x.heap.size := World.block_lt_of_cell? _ _ h3
        simp only [mixL, mkMQ, yieldsC, List.contains_cons, List.contains_nil, Nat.reduceAdd, Nat.reduceBEq, Nat.reduceEqDiff, Nat.zero_add, Bool.or_false, Bool.or_true, Bool.false_or, Bool.true_or, Bool.false_eq_true, if_true, if_false, Bool.or_self]
        repeat (go_big_quiet_step (fail))
        exact wpQuiet_nil rfl
      case hind => intro j hj; simp only [List.mem_cons, List.not_mem_nil, or_false] at hj; rcases hj with rfl | rfl <;> (intro g h; kernel_rfl)
      case hm1 =>
        intro o ho g x
        simp only [List.getElem?_cons_succ, List.getElem?_cons_zero, Option.some.injEq] at ho
        subst ho
        kernel_rfl
      case hq1 =>
        intro o ho g x hC hownx hz
        simp only [List.getElem?_cons_succ, List.getElem?_cons_zero, Option.some.injEq] at ho
        subst ho
        exact exec_append_at (.tmp 18) (.tmp 34) 26 3 i0 z0 _ 1 8 (w.heap.size + 1) (k + 1) _ _ _ 3 rfl (by kernel_rfl) (by kernel_rfl) Tryz.underlying26 hi hz0 hz1 hz2 hzs (by decide) hownx hz rfl (by intro u hu; simp at hu; subst hu; rfl) (by unfold maxLen; omega) (by omega) (by have := (Array.getElem?_eq_some_iff.1 hC.2.1).1; omega)
      case hend =>
        rintro g x ⟨h1, h2, -⟩ hownx
        rw [hnext.out] at hownx
        have hown3 := Lib.hid hownx
        clear hownx
        dsimp only
        go_wp2
        go_roundw
        case rel => exact ⟨k + 1, by omega, by go_num, h1, h2, hown3⟩
        case measure => simp [intOf]; omega
    · have hkm : k = m := by omega
      subst hkm
      have hown2 := Lib.hid hown.out
      clear hown
      have hfull : u.take k = u := List.take_of_length_le (by rw [hm'.out]; exact Nat.le_refl _)
      rw [hfull] at hown2
      go_wp2
      refine bodyPost_ret (v := u5) ?_ rfl ⟨⟨u5, rfl, owns_base hown2.out (Nat.le_succ _)⟩, hbw⟩
      simp [results, Tryz.results47, go_sem]
end Go.Proofs
