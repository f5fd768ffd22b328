import Derived.Test.YtpmliaildjomeaaGreatDoorMg19
import Derived.Test.YtpmliaildjomeaaGreatDoorMg16
import Derived.Test.YtpmliaildjomeaaGreatDoorMg26
set_option linter.unusedSimpArgs false
set_option linter.unusedVariables false
namespace Go.Proofs
open Go.RowKit
section
variable {P : Program}
/-! As any_last, where the last operation waits for all others by way of others. -/
theorem any_lastR {Q : Exit → Act → World → Prop} {a0 : Act} {w : World} {l : List Oper} (n : Nat) (oz : Oper) (hn : l.length = n + 1) (hz : l[n]? = some oz)
    (hB : slotsOk (l.take n).toArray = true) (hG : l.all (fun o => o.guard.isNone) = true) (hA : (List.range n).all (fun i => (reachO l l.length (onsO oz)).contains i) = true) (hE : oz.after.all (fun e => !Region.binds .any e || decide (e.on < n)) = true)
    (h : wpAny P .any (l.take n).toArray (fun e a x => match e with | .normal => oz.wp P a x (fun a' x' => Q .normal a' x') Q | e => Q e a x) (l.take n).toArray.size (Array.replicate (l.take n).toArray.size false) a0 { w with drawn := w.drawn + 1 }) :
    wpAny P .any l.toArray Q l.toArray.size (Array.replicate l.toArray.size false) a0 { w with drawn := w.drawn + 1 } := by
  have H := slotsOk_spec hB
  have hlen : (l.take n).length = n := by simp; omega
  have hgn : ∀ (i : Nat) (o : Oper), l[i]? = some o → o.guard = none := fun i o ho => by
    have := List.all_eq_true.1 hG o (List.mem_of_getElem? ho)
    simpa using this
  have get0 : ∀ i, i < n → (l.take n).toArray[i]? = l.toArray[i]? := fun i hi => by simp [List.getElem?_take_of_lt hi]
  have getn : ∀ i, n ≤ i → (l.take n).toArray[i]? = none := fun i hi => by simp [List.getElem?_eq_none (show (l.take n).length ≤ i by omega)]
  have pushD : ∀ (listed : Array Bool) (b d : Bool) (i : Nat), listed.size = n → i < n → (listed.push b).getD i d = listed.getD i d := fun listed b d i hs hi => by
    rw [Array.getD_eq_getD_getElem?, Array.getD_eq_getD_getElem?, Array.getElem?_push_lt (by omega)]
    simp [Array.getElem?_eq_getElem (show i < listed.size by omega)]
  have pushL : ∀ (listed : Array Bool) (b d : Bool), listed.size = n → (listed.push b).getD n d = b := fun listed b d hs => by
    rw [Array.getD_eq_getD_getElem?, ← hs]
    simp
  have rdy : ∀ (listed : Array Bool) (b : Bool) (i : Nat), listed.size = n → i < n → (i ∈ Region.ready .any l.toArray (listed.push b) ↔ i ∈ Region.ready .any (l.take n).toArray listed) := fun listed b i hs hi => by
    rw [mem_ready, mem_ready, pushD _ _ _ _ hs hi, get0 i hi]
    constructor
    · rintro ⟨h1, o, ho, h2⟩
      refine ⟨h1, o, ho, fun e he hb => ?_⟩
      have := H.after i o e ((get0 i hi).trans ho) he hb
      rw [← pushD listed b false e.on hs (by omega)]
      exact h2 e he hb
    · rintro ⟨h1, o, ho, h2⟩
      refine ⟨h1, o, ho, fun e he hb => ?_⟩
      have := H.after i o e ((get0 i hi).trans ho) he hb
      rw [pushD listed b false e.on hs (by omega)]
      exact h2 e he hb
  have gen : ∀ (f : Nat) (listed : Array Bool) (a : Act) (x : World), listed.size = n → (∀ (i : Nat) (o : Oper), (l.take n).toArray[i]? = some o → listed.getD i false = true → ∀ e ∈ o.after, Region.binds .any e = true → listed.getD e.on false = true) → wpAny P .any (l.take n).toArray (fun e a x => match e with | .normal => oz.wp P a x (fun a' x' => Q .normal a' x') Q | e => Q e a x) f listed a x → wpAny P .any l.toArray Q (f + 1) (listed.push false) a x := by
    have fin : ∀ (f : Nat) (listed : Array Bool) (a : Act) (x : World), listed.size = n → (∀ i, i < n → listed.getD i true = true) → oz.wp P a x (fun a' x' => Q .normal a' x') Q → wpAny P .any l.toArray Q (f + 1) (listed.push false) a x := by
      intro f listed a x hs hu hw
      have hrn : n ∈ Region.ready .any l.toArray (listed.push false) := by
        rw [mem_ready]
        refine ⟨pushL _ _ _ hs, oz, by simpa using hz, fun e he hb => ?_⟩
        have h1 := Array.all_eq_true'.1 hE e he
        rw [hb] at h1
        simp only [Bool.not_true, Bool.false_or, decide_eq_true_eq] at h1
        rw [pushD _ _ _ _ hs h1]
        have := hu e.on h1
        rw [Array.getD_eq_getD_getElem?, Array.getElem?_eq_getElem (by omega)] at this ⊢
        exact this
      refine ⟨fun h0 => (by rw [h0] at hrn; cases hrn), fun i hi => ?_⟩
      have hin : i = n := by
        obtain ⟨h1, o, ho, -⟩ := mem_ready.1 hi
        have hlt : i < l.length := by simpa using lt_of_some ho
        rcases Nat.lt_or_ge i n with h | h
        · rw [pushD _ _ _ _ hs h, hu i h] at h1
          cases h1
        · omega
      subst hin
      have hset : (listed.push false).setIfInBounds i true = listed.push true := by
        apply Array.ext_getElem?
        intro j
        rw [Array.getElem?_setIfInBounds, Array.getElem?_push, Array.getElem?_push]
        simp only [Array.size_push, hs]
        by_cases h : i = j
        · subst h; simp [hs]
        · simp [h, hs, Ne.symm h]
      have hlast : wpAny P .any l.toArray Q f (listed.push true) = fun a' x' => wpAny P .any l.toArray Q f (listed.push true) a' x' := rfl
      have hr0 : Region.ready .any l.toArray (listed.push true) = [] := by
        rw [List.eq_nil_iff_forall_not_mem]
        intro j hj
        obtain ⟨h1, o, ho, -⟩ := mem_ready.1 hj
        have hlt : j < l.length := by simpa using lt_of_some ho
        rcases Nat.lt_or_ge j i with h | h
        · rw [pushD _ _ _ _ hs h, hu j h] at h1
          cases h1
        · have : j = i := by omega
          subst this
          rw [pushL _ _ _ hs] at h1
          cases h1
      have hK : ∀ a' x', Q .normal a' x' → wpAny P .any l.toArray Q f (listed.push true) a' x' := fun a' x' h => by
        cases f with
        | zero => exact ⟨hr0, h⟩
        | succ f => exact ⟨fun _ => h, fun j hj => by rw [hr0] at hj; cases hj⟩
      unfold wpOp
      have hzi : l.toArray[i]? = some oz := by simpa using hz
      simp only [hzi]
      have hwn : Region.wanted oz (yielded l.toArray a.tmps) = true := by unfold Region.wanted; rw [hgn i oz hz]
      rw [if_pos hwn, hset]
      exact .inl (Oper.wp_mono hK hw)
    intro f
    induction f with
    | zero =>
      rintro listed a x hs hcl ⟨hr, hq⟩
      exact fin 0 listed a x hs (fun i hi => all_up H (by simp [hs]; omega) hr i (by simp; omega)) hq
    | succ f ih =>
      rintro listed a x hs hcl ⟨hr, hq⟩
      by_cases hr0 : Region.ready .any (l.take n).toArray listed = []
      · exact fin (f + 1) listed a x hs (fun i hi => all_up H (by simp [hs]; omega) hr0 i (by simp; omega)) (hr hr0)
      · have hnn : ∀ i, i ∈ Region.ready .any l.toArray (listed.push false) → i < n := by
          intro i hi
          obtain ⟨h1, o, ho, h2⟩ := mem_ready.1 hi
          have hlt : i < l.length := by simpa using lt_of_some ho
          rcases Nat.lt_or_ge i n with h | h
          · exact h
          · have hin : i = n := by omega
            subst hin
            exfalso
            obtain ⟨j, hj⟩ := List.exists_mem_of_ne_nil _ hr0
            obtain ⟨h3, o3, ho3, -⟩ := mem_ready.1 hj
            have hji : j < i := by
              rcases Nat.lt_or_ge j i with h | h
              · exact h
              · rw [getn j h] at ho3; cases ho3
            have hzo : o = oz := by
              rw [show l.toArray[i]? = l[i]? by simp, hz] at ho
              exact (Option.some.inj ho).symm
            subst hzo
            have h4 := List.all_eq_true.1 hA j (List.mem_range.2 hji)
            have h5 := reachO_spec (l := l) (L := fun i => (listed.push false).getD i false) (fun k ok hk hLk e he hb => by
              have hkn : k < i := by
                rcases Nat.lt_or_ge k i with h | h
                · exact h
                · exfalso
                  rw [Array.getD_eq_getD_getElem?] at hLk
                  rcases Nat.lt_or_ge i k with h' | h'
                  · rw [Array.getElem?_eq_none (by simp; omega)] at hLk
                    cases hLk
                  · have hkk : k = i := by omega
                    rw [hkk, ← hs] at hLk
                    simp at hLk
              have hk' : (l.take i).toArray[k]? = some ok := by simp [List.getElem?_take_of_lt hkn, hk]
              rw [pushD _ _ _ _ hs hkn] at hLk
              have h7 := hcl k ok hk' hLk e he hb
              have h8 := H.after k ok e hk' he hb
              rw [pushD _ _ _ _ hs (by omega)]
              exact h7) l.length (S := onsO o) (onsO_spec fun e he hb => h2 e he hb) j (by simpa using h4)
            rw [pushD _ _ _ _ hs hji] at h5
            rw [Array.getD_eq_getD_getElem?, Array.getElem?_eq_getElem (by omega)] at h3 h5
            simp only [Option.getD_some] at h3 h5
            rw [h3] at h5
            cases h5
        refine ⟨fun h0 => ?_, fun i hi => ?_⟩
        · exfalso
          obtain ⟨j, hj⟩ := List.exists_mem_of_ne_nil _ hr0
          have hji : j < n := by
            obtain ⟨h3, o3, ho3, -⟩ := mem_ready.1 hj
            rcases Nat.lt_or_ge j n with h | h
            · exact h
            · rw [getn j h] at ho3; cases ho3
          have := (rdy listed false j hs hji).2 hj
          rw [h0] at this
          cases this
        · have hin := hnn i hi
          have hi0 := (rdy listed false i hs hin).1 hi
          have h6 := hq i hi0
          obtain ⟨-, o, ho, -⟩ := mem_ready.1 hi0
          have hol : l.toArray[i]? = some o := (get0 i hin).symm.trans ho
          have hg := hgn i o (by simpa using hol)
          unfold wpOp at h6 ⊢
          simp only [ho] at h6
          simp only [hol]
          have hw1 : ∀ y, Region.wanted o y = true := fun y => by unfold Region.wanted; rw [hg]
          rw [if_pos (hw1 _)] at h6
          rw [if_pos (hw1 _)]
          have hcl2 : ∀ (k : Nat) (ok : Oper), (l.take n).toArray[k]? = some ok → (listed.setIfInBounds i true).getD k false = true → ∀ e ∈ ok.after, Region.binds .any e = true → (listed.setIfInBounds i true).getD e.on false = true := by
            intro k ok hk hLk e he hb
            have hup : ∀ q, listed.getD q false = true → (listed.setIfInBounds i true).getD q false = true := fun q hq => by
              rw [Array.getD_eq_getD_getElem?, Array.getElem?_setIfInBounds]
              split
              · rename_i hiq
                subst hiq
                have hil : i < listed.size := by omega
                simp [hil]
              · rwa [Array.getD_eq_getD_getElem?] at hq
            by_cases hki : k = i
            · subst hki
              obtain ⟨-, o3, ho3, ha3⟩ := mem_ready.1 hi0
              rw [hk] at ho3
              cases ho3
              exact hup _ (ha3 e he hb)
            · refine hup _ (hcl k ok hk ?_ e he hb)
              rw [Array.getD_eq_getD_getElem?, Array.getElem?_setIfInBounds, if_neg (Ne.symm hki)] at hLk
              rw [Array.getD_eq_getD_getElem?]
              exact hLk
          have hset : (listed.push false).setIfInBounds i true = (listed.setIfInBounds i true).push false := by
            apply Array.ext_getElem?
            intro j
            rw [Array.getElem?_setIfInBounds, Array.getElem?_push, Array.getElem?_push, Array.getElem?_setIfInBounds]
            simp only [Array.size_push, Array.size_setIfInBounds, hs]
            by_cases h : i = j
            · subst h; simp [hs, hin, Nat.lt_succ_of_lt hin, Nat.ne_of_lt hin]
            · simp [h]
          rw [hset]
          have hmono : ∀ a' x', wpAny P .any (l.take n).toArray (fun e a x => match e with | .normal => oz.wp P a x (fun a' x' => Q .normal a' x') Q | e => Q e a x) f (listed.setIfInBounds i true) a' x' → wpAny P .any l.toArray Q (f + 1) ((listed.setIfInBounds i true).push false) a' x' := fun a' x' h => ih _ a' x' (by simp [hs]) hcl2 h
          rcases h6 with h6 | ⟨h6, h7⟩
          · left
            refine Oper.wp_mono hmono ?_
            unfold Oper.wp at h6 ⊢
            generalize (execOp a.eval o).run P x = r at *
            cases r with
            | ok nx w' =>
              cases nx with
              | enter f' args => exact (show Calls P f' args w' _ from h6).mono fun e w'' he => by cases e <;> exact he
              | _ => exact h6
            | halt v w' => cases v <;> exact h6
          · right
            exact ⟨h6, h7⟩
  have hpr : (Array.replicate (l.take n).toArray.size false).push false = Array.replicate l.toArray.size false := by
    rw [← Array.replicate_succ]
    congr 1
    simp
    omega
  have := gen _ _ _ _ (by simp; omega) (fun k ok hk hLk e he hb => by rw [Array.getD_eq_getD_getElem?, Array.getElem?_replicate] at hLk; split at hLk <;> cases hLk) h
  rw [hpr] at this
  have e : (l.take n).toArray.size + 1 = l.toArray.size := by simp; omega
  rwa [e] at this
end
end Go.Proofs

set_option linter.unusedSimpArgs false
set_option linter.unusedVariables false
namespace Go.Proofs
open Go.RowKit
section
variable {P : Program}
/-- What one store into a block keeps. -/
def Keep1 (w0 w : World) (b4 : Nat) (x : World) : Prop := Below w0.heap.size w0 x ∧ w.heap.size ≤ x.heap.size ∧ ∀ k, k < w.heap.size → k ≠ b4 → x.heap[k]? = w.heap[k]?
/-- A drawn region: one store into a block of the call's own; all else is quiet. -/
theorem any_st1 {Q : Exit → Act → World → Prop} {a0 : Act} {w : World} {l : List Oper} (w0 : World) (p : Nat) (b4 : Nat) (y4 z4 : Obj) (af : Act)
    (hB : slotsOk l.toArray = true) (hB' : slotsOk (mixL [p] (fun _ _ => undef) (fun _ => Gh.zero) 0 l).toArray = true) (hS : Region.noSelect l.toArray = true) (hN : spB l.toArray [p] = true)
    (hkd : (match l[p]? with | some o => o.dst.isNone | _ => false) = true)
    (hw : Below w0.heap.size w0 w) (hb : w0.heap.size ≤ b4) (h4 : w.heap[b4]? = some y4)
    (hs4 : ∀ o, l[p]? = some o → ∀ x, Keep1 w0 w b4 x → x.heap[b4]? = some y4 → ∃ x', (execOp af.eval o).run P x = .ok .skip x' ∧ OnlyB b4 x x' ∧ x'.heap[b4]? = some z4)
    (hq : ∀ u, Keep1 w0 w b4 u → (∀ (x : Grew u) (b o : Nat), b < u.heap.size → x.val.cell? ⟨b, o, none⟩ = u.cell? ⟨b, o, none⟩) →
      wpQuiet P (mixL [p] (fun _ _ => undef) (fun _ => Gh.zero) 0 l).toArray (fun w' => ∃ x : Grew u, w' = x.val) (fun a' => a' = af) (mixL [p] (fun _ _ => undef) (fun _ => Gh.zero) 0 l) a0)
    (hend : ∀ x, Keep1 w0 w b4 x → x.heap[b4]? = some z4 → Q .normal af x) :
    wpAny P .any l.toArray Q l.toArray.size (Array.replicate l.toArray.size false) a0 { w with drawn := w.drawn + 1 } := by
  have hdst : ∀ j ∈ [p], ∀ o, l[j]? = some o → o.dst = none := by
    cases h1 : l[p]? with
    | none => rw [h1] at hkd; simp at hkd
    | some o1 =>
      rw [h1] at hkd
      simp only [Option.isNone_iff_eq_none] at hkd
      intro j hj o ho
      rw [List.mem_singleton] at hj
      subst hj
      rw [h1] at ho; cases ho; exact hkd
  have hkb : ∀ {x x' : World}, Keep1 w0 w b4 x → OnlyB b4 x x' → Keep1 w0 w b4 x' := fun {x x'} h ho =>
    ⟨h.1.trans (ho.below _ hb), Nat.le_trans h.2.1 (ho.below 0 (Nat.zero_le _)).size, fun k hk k1 => (ho.other k k1).trans (h.2.2 k hk k1)⟩
  have hkB : ∀ {x x' : World}, Keep1 w0 w b4 x → Below x.heap.size x x' → Keep1 w0 w b4 x' := fun {x x'} h hbx =>
    ⟨via h.1 hbx, Nat.le_trans h.2.1 hbx.size, fun k hk k1 => (hbx.block k (Nat.lt_of_lt_of_le hk h.2.1)).trans (h.2.2 k hk k1)⟩
  have hmx : ∀ g g', mixL [p] (fun _ _ => undef) g 0 l = mixL [p] (fun _ _ => undef) g' 0 l := fun g g' => by
    apply List.ext_getElem?
    intro j
    have k1 := mixL_get [p] (fun _ _ => undef) g l 0 j
    have k2 := mixL_get [p] (fun _ _ => undef) g' l 0 j
    rw [k1, k2]
  refine any_mixC w0 (Keep1 w0 w b4) [p] (fun _ _ => undef) (fun L g x => x.heap[b4]? = some (if L p then z4 else y4)) (fun _ => af) hB (fun g => by rw [hmx g (fun _ => Gh.zero)]; exact hB') hS hN
    ⟨hw, Nat.le_refl _, fun _ _ _ => rfl⟩ (fun x x' h hb => hkB h hb) (fun x h => h.1) ?_ ?_ (fun g u hu hgc _ _ => by rw [hmx g (fun _ => Gh.zero)]; exact hq u hu hgc) (fun _ _ _ _ => rfl) ?_ ?_
  · intro L h
    rw [h p (by simp)]
    exact h4
  · rintro L L' g x x' h k1 hbx
    rw [h p (by simp)]
    exact bk_keep hbx k1
  · intro j hj o ho L g x k1 hC hB0 hL hafter hclo
    have hd := hdst j hj o ho
    rw [List.mem_singleton] at hj
    subst hj
    rw [hL] at k1
    obtain ⟨x', r1, r2, r3⟩ := hs4 o ho x hC k1
    refine does_skip r1 ⟨hkb hC r2, .inl ⟨hd, ?_⟩⟩
    rw [setL_self]
    exact r3
  · rintro g x k1 hC hB0
    simp only [if_true] at k1
    exact hend x hC k1
/-- A drawn region: all is quiet. -/
theorem any_q {Q : Exit → Act → World → Prop} {a0 : Act} {w : World} {l : List Oper} (w0 : World) (af : Act)
    (hB : slotsOk l.toArray = true) (hB' : slotsOk (mixL [] (fun _ _ => undef) (fun _ => Gh.zero) 0 l).toArray = true) (hS : Region.noSelect l.toArray = true) (hN : spB l.toArray [] = true) (hw : Below w0.heap.size w0 w)
    (hq : ∀ u, Below w.heap.size w u → (∀ (x : Grew u) (b o : Nat), b < u.heap.size → x.val.cell? ⟨b, o, none⟩ = u.cell? ⟨b, o, none⟩) →
      wpQuiet P (mixL [] (fun _ _ => undef) (fun _ => Gh.zero) 0 l).toArray (fun w' => ∃ x : Grew u, w' = x.val) (fun a' => a' = af) (mixL [] (fun _ _ => undef) (fun _ => Gh.zero) 0 l) a0)
    (hend : ∀ x, Below w.heap.size w x → Q .normal af x) :
    wpAny P .any l.toArray Q l.toArray.size (Array.replicate l.toArray.size false) a0 { w with drawn := w.drawn + 1 } := by
  have hmx : ∀ g g', mixL [] (fun _ _ => undef) g 0 l = mixL [] (fun _ _ => undef) g' 0 l := fun g g' => by
    apply List.ext_getElem?
    intro j
    have k1 := mixL_get [] (fun _ _ => undef) g l 0 j
    have k2 := mixL_get [] (fun _ _ => undef) g' l 0 j
    rw [k1, k2]
  exact any_mixC w0 (fun x => Below w.heap.size w x) [] (fun _ _ => undef) (fun _ _ _ => True) (fun _ => af) hB (fun g => by rw [hmx g (fun _ => Gh.zero)]; exact hB') hS hN
    (Below.refl _ _) (fun x x' h hb => h.trans (hb.mono h.size)) (fun x h => via hw h) (fun _ _ => trivial) (fun _ _ _ _ _ _ _ _ => trivial) (fun g u hu hgc _ _ => by rw [hmx g (fun _ => Gh.zero)]; exact hq u hu hgc) (fun j hj => by cases hj) (fun j hj => by cases hj) (fun g x _ hx _ => hend x hx)
end
end Go.Proofs

set_option linter.unusedSimpArgs false
set_option linter.unusedVariables false
namespace Go.Proofs
open Go.RowKit
set_option linter.unusedVariables false
/-! Only, of a right book and right numbers. -/
theorem unl_true (n : Int) : unl true n = 0 := rfl
theorem pickL_mem {es : List En} {S : List Nat} {x : En} (h : x ∈ pickL es S) : x ∈ es := by
  unfold pickL at h
  obtain ⟨i, -, hi⟩ := List.mem_filterMap.1 h
  exact List.mem_of_getElem? hi
theorem own_le {w : World} {base : Nat} {e : TypeId} {size n c : Nat} {A : Option Addr} {xs : List Value} (h : w.ownsRow base e size (.slice A n c) n xs) : n ≤ c := by
  rcases h.2 with ⟨h, h0⟩ | ⟨g, cap, cur, h1, h2, h3, h4, -⟩
  · omega
  · cases h1; exact h4
theorem asc_len {b : Nat} : ∀ {l : List Nat} {a : Nat}, Asc a b l → l.length ≤ b - a
  | [], _, _ => Nat.zero_le _
  | x :: l, a, h => by
    obtain ⟨h1, h2, h3⟩ := h
    have := asc_len h3
    simp only [List.length_cons]
    omega
theorem Asc.getE {b : Nat} : ∀ {l : List Nat} {a : Nat}, Asc a b l → ∀ (i j : Nat) {x y : Nat}, i < j → l[i]? = some x → l[j]? = some y → x < y
  | [], _, _, i, j, x, y, _, h, _ => by simp at h
  | z :: l, a, h, i, j, x, y, hij, hi, hj => by
    obtain ⟨h1, h2, h3⟩ := h
    cases j with
    | zero => omega
    | succ j =>
      have hj' : l[j]? = some y := by simpa using hj
      cases i with
      | zero =>
        obtain rfl : z = x := by simpa using hi
        have := h3.lt y (List.mem_of_getElem? hj')
        omega
      | succ i => exact Asc.getE h3 i j (by omega) (by simpa using hi) hj'
set_option maxRecDepth 100000 in
set_option maxHeartbeats 4000000 in
theorem onlyOk_any (pA eA sA : Option Addr) (pc ec pn en sc sn : Nat) (ps : List Pa) (es : List En) (S : List Nat) (w : World) (hB : BookAt w pA pc ps eA ec es) (hF : FewB ps es) (hR : BookR ps es) (hpn : ps.length = pn) (hen : es.length = en) (hpnil : pA = none → pc = 0)
    (hS : At 1 Zc w sA (natZ S)) (hSn : S.length = sn) (hasc : Asc 0 en S) :
    Calls Tryz.prog 19 #[.agg #[.slice pA pn pc, .slice eA en ec], .slice sA sn sc] w fun e w' => (∃ A c A2 c2 es2, e = .returned (.tuple #[.agg #[.slice A pn c, .slice A2 sn c2], .int .i64 0]) ∧ es2.length = sn ∧ es2.map En.sig = (pickL es S).map En.sig ∧ BookAt w' A c ps A2 c2 es2 ∧ (A = none → c = 0)) ∧ Below w.heap.size w w' := by
  have hz : (bookV ps es).2 = 0 := bookR_iff.2 hR
  have hBo := Lib.hid fun W (hb : Below w.heap.size w W) => bookErr_any pA eA pc ec pn en ps es W (hB.below hb) hF hpn hen
  rw [hz] at hBo
  have hSi : ∀ i ∈ S, i < en := fun i hi => (hasc.lt i hi).2
  have he8 : en ≤ 8 := by rw [← hen]; exact hR.e8
  have hsn8 : sn ≤ 900 := by
    have hp := pickL_len (es := es) (S := S) (fun i hi => by rw [hen]; exact hSi i hi)
    have hs := asc_len hasc
    omega
  have hec : en ≤ ec := by rw [← hen]; exact hB.ec'
  have hOn := Lib.hid fun W (hb : Below w.heap.size w W) => only_any pA eA sA pc ec pn en sc sn es S W (hB.E.below hb) hen hec (hS.below hb) hSn hSi hsn8
  have hpl : (pickL es S).length = sn := by rw [pickL_len (fun i hi => by rw [hen]; exact hSi i hi), hSn]
  have hFp : FewB ps (pickL es S) := ⟨hF.p, by omega, hF.pn, fun x hx => hF.en x (pickL_mem hx), fun x hx => hF.co x (pickL_mem hx)⟩
  have hCo := Lib.hid fun W A c (hb : Below w.heap.size w W) (hA : W.ownsRow w.heap.size 73 3 (.slice A sn c) sn ((pickL es S).flatMap En.cs)) => copied_any pA A pc c pn sn ps (pickL es S) W ⟨hB.P.below hb, ⟨by
      rw [← hpl] at hA
      obtain ⟨A', c', e, h1⟩ := at_of_owns (cs := En.cs) (sz := 3) (fun _ => rfl) hA
      cases e
      exact h1, fun x hx => (hB.E.2 x (pickL_mem hx)).below hb⟩, hB.pc', by rw [hpl]; exact own_le hA, fun x hx => hB.nil x (pickL_mem hx)⟩ hFp hpn hpl hpnil (by omega)
  have hS' := Lib.hid hS
  have hSn' := Lib.hid hSn
  have hasc' := Lib.hid hasc
  have hpn' := Lib.hid hpn
  have hs2 : ∀ x, (sizeOf 25).run Tryz.prog x = .ok 2 x := fun x => by kernel_rfl
  have ha2 : ∀ x, (isAgg 25).run Tryz.prog x = .ok true x := fun x => by kernel_rfl
  clear hB hF hR hpn hen hpnil hS hSn hasc hz hSi hpl hFp
  go_enter Tryz.func19, Tryz.ntmps19
  go_wp2_with (go_at_call 40; refine (hBo.out _ (by go_grown)).mono ?_; rintro e w2 ⟨rfl, hb2⟩; (have M0 := bk_keep hb2 (by (repeat (first | assumption | (refine bk_new _ _ ?_; (simp; done)) | refine bk_drew ?_ | refine bk_alloc ?_ _ | refine bk_set ?_ (by simp <;> omega) _)) : ((w.alloc (.cells #[.slice pA pn pc, .slice eA en ec] 25 (0, 0))).alloc (.cells #[.slice none 0 0, .slice none 0 0] 25 (0, 0))).heap[w.heap.size]? = some (.cells #[.slice pA pn pc, .slice eA en ec] 25 (0, 0)))); (have M1 := bk_keep hb2 (by (repeat (first | assumption | (refine bk_new _ _ ?_; (simp; done)) | refine bk_drew ?_ | refine bk_alloc ?_ _ | refine bk_set ?_ (by simp <;> omega) _)) : ((w.alloc (.cells #[.slice pA pn pc, .slice eA en ec] 25 (0, 0))).alloc (.cells #[.slice none 0 0, .slice none 0 0] 25 (0, 0))).heap[w.heap.size + 1]? = some (.cells #[.slice none 0 0, .slice none 0 0] 25 (0, 0)))); (have hbw2 : Below w.heap.size w w2 := via (by go_grown) hb2); clear hb2)
  go_loopw [18] (fun i wr => ∃ j : Nat, j ≤ sn ∧ i = .int .i64 j ∧ Below w2.heap.size w2 wr) (fun i _ => sn - (intOf i).toNat)
  case atStart => exact ⟨0, Nat.zero_le _, rfl, Below.refl _ _⟩
  case round =>
    obtain ⟨j, hj, rfl, hb2⟩ := hrel
    have hbw : Below w.heap.size w wr := via hbw2 hb2
    have D0 := bk2 (bk_keep hb2 M0)
    have D1 := bk2 (bk_keep hb2 M1)
    by_cases hlt : j < sn
    · have hjI : (j : Int) < (sn : Int) := by omega
      obtain ⟨i, hi2⟩ : ∃ i, S[j]? = some i := ⟨_, List.getElem?_eq_getElem (by rw [hSn'.out]; exact hlt)⟩
      obtain ⟨b3, o3, eA3, hs3, c4⟩ := zc_cell (hS'.out.below hbw) (k := j) (by rw [natZ, List.length_map, hSn'.out]; exact hlt)
      rw [natZ, List.getD_eq_getElem?_getD, List.getElem?_map, hi2] at c4
      simp only [Option.map_some, Option.getD_some] at c4
      have hie : i < en := (hasc'.out.lt i (List.mem_of_getElem? hi2)).2
      have hwI : within (i : Int) 0 ((en : Int) - 1) = true := within_iff.2 ⟨by omega, by omega⟩
      have hwr : IntKind.i64.wrap ((en : Int) - 1) = (en : Int) - 1 := IntWalk.i64_in _ (by omega)
      cases j with
      | zero =>
        subst eA3
        simp only [Nat.add_zero] at c4
        clear hi2
        go_wp2_with (first
          | (go_at_call 33; refine (within_any _ _ _ _).mono ?_; rw [hwI]; rintro e w' ⟨rfl, rfl⟩)
          | (go_at_call 36; refine (unless_any _ _ _).mono ?_; rw [unl_true]; rintro e w' ⟨rfl, rfl⟩)
          | (go_at_call 35; refine (first2 _ _ _).mono ?_; rintro e w' ⟨rfl, rfl⟩))
        go_roundw
        case rel => exact ⟨1, by omega, by go_num, via hb2 (new_below _ _)⟩
        case measure => first | (simp [intOf]; done) | (simp [intOf]; omega)
      | succ j =>
        obtain ⟨i0, hi0⟩ : ∃ i, S[j]? = some i := ⟨_, List.getElem?_eq_getElem (by rw [hSn'.out]; omega)⟩
        obtain ⟨b4, o4, eA4, hs4, c5⟩ := zc_cell (hS'.out.below hbw) (k := j) (by rw [natZ, List.length_map, hSn'.out]; omega)
        rw [natZ, List.getD_eq_getElem?_getD, List.getElem?_map, hi0] at c5
        simp only [Option.map_some, Option.getD_some] at c5
        rw [eA3] at eA4
        cases eA4
        have hlt2 : (i0 : Int) < (i : Int) := by have := hasc'.out.getE j (j + 1) (by omega) hi0 hi2; omega
        have hlt3 : decide ((i0 : Int) < (i : Int)) = true := by simpa using hlt2
        subst eA3
        clear hi2 hi0
        have hj0 : ¬ (((j + 1 : Nat) : Int) = 0) := by omega
        have hwj : IntKind.i64.wrap (((j + 1 : Nat) : Int) - 1) = (j : Int) := by rw [IntWalk.i64_in _ (by omega)]; omega
        have hjl : ¬ (((j + 1 : Nat) : Int) < 1) := by omega
        go_wp2_with (first
          | (go_at_call 33; refine (within_any _ _ _ _).mono ?_; rw [hwI]; rintro e w' ⟨rfl, rfl⟩)
          | (go_at_call 36; refine (unless_any _ _ _).mono ?_; rw [unl_true]; rintro e w' ⟨rfl, rfl⟩)
          | (go_at_call 35; refine (first2 _ _ _).mono ?_; rintro e w' ⟨rfl, rfl⟩))
        go_roundw
        case rel => exact ⟨j + 1 + 1, by omega, by go_num, via hb2 (new_below _ _)⟩
        case measure => first | (simp [intOf]; done) | (simp [intOf]; omega)
    · obtain rfl : sn = j := by omega
      have M1r := bk_keep hb2 M1
      go_wp2_with (first
        | (go_at_call 50; refine (hOn.out _ hbw).mono ?_; rintro e w3 ⟨⟨A3, c3, rfl, hO3⟩, hb3⟩; (have hO3' := Lib.hid (owns_base hO3 hbw.size)); (have hbw3 := via hbw hb3); (have N1 := bk_keep hb3 M1r); clear hO3 hb3)
        | (go_at_call 49; refine (hCo.out _ _ _ hbw3 hO3'.out).mono ?_; rintro e w4 ⟨⟨A4, c4, A5, c5, es2, rfl, hl5, hsg, hO4, hO5⟩, hb4⟩; (have P1 := bk_keep hb4 N1); (have E1 := bk2 P1); (have hbw4 := via hbw3 hb4); (have hs34 := hbw3.size); (have hO4' := Lib.hid hO4); (have hO5' := Lib.hid hO5); (have hl5' := Lib.hid hl5); (have hsg' := Lib.hid hsg); clear hO4 hO5 hl5 hsg hb4))
      have hs12 : w.heap.size + 1 < w2.heap.size := bk_size M1
      have hs23 := hb2.size
      have hs13 := bk_size N1
      obtain ⟨W9, hW9⟩ : ∃ W9, (w4.setCell ⟨w.heap.size + 1, 0, none⟩ (.slice A4 pn c4)).setCell ⟨w.heap.size + 1, 1, none⟩ (.slice A5 sn c5) = W9 := ⟨_, rfl⟩
      have hO : OnlyB (w.heap.size + 1) w4 W9 := by rw [← hW9]; exact ((OnlyB.refl _ w4).set _ _).set _ _
      have Z1 : W9.heap[w.heap.size + 1]? = some (.cells #[.slice A4 pn c4, .slice A5 sn c5] 25 (0, 0)) := by rw [← hW9]; exact bk_here (bk_here P1 _ rfl) _ rfl
      have hz9 : w4.heap.size ≤ W9.heap.size := by rw [← hW9]; simp
      rw [hW9]
      have o4 := owns_kept hO4'.out fun r e => hO.other r (by have := (hO4'.out.lt r e).1; omega)
      have o5 := hO5'.out.other (k := w.heap.size + 1) (by omega) hO hz9
      have o5w := o5.own
      rw [hl5'.out] at o5w
      refine bodyPost_ret (v := .tuple #[.agg #[.slice A4 pn c4, .slice A5 sn c5], .int .i64 0]) ?_ rfl ⟨⟨A4, c4, A5, c5, es2, rfl, hl5'.out, hsg'.out, ⟨?_, ?_, ?_, ?_, ?_⟩, own_nil o4⟩, hbw4.trans (hO.below _ (by omega))⟩
      · exact results_cell2t (p := 4) (u := 5) (ad := ⟨w.heap.size + 1, 0, none⟩) (v := .agg #[.slice A4 pn c4, .slice A5 sn c5]) rfl (by rfl) (run_loadBlock (T := 25) (cs := [.slice A4 pn c4, .slice A5 sn c5]) (ha2 _) (hs2 _) Z1)
      · have := o4
        rw [← hpn'.out] at this
        obtain ⟨A', c', e, h1⟩ := at_of_owns (cs := Pa.cs) (sz := 5) (fun _ => rfl) this
        cases e
        exact h1
      · have := o5
        rw [← hl5'.out] at this
        exact this.ensAt
      · rw [hpn'.out]; exact own_le o4
      · rw [hl5'.out]; exact own_le o5w
      · exact fun x hx => (o5.row x hx).2.1
end Go.Proofs
