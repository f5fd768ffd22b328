import Derived.Test.YtpmliaildjomeaaGreatDoorMg18
import Derived.Test.YtpmliaildjomeaaGreatDoorMg14
import Derived.Test.YtpmliaildjomeaaGreatDoorMg3
set_option linter.unusedSimpArgs false
set_option linter.unusedVariables false
namespace Go.Proofs
open Go.RowKit

/-! What a right book is. -/
theorem firstE_zero {es : List Int} : firstE es = 0 ↔ ∀ e ∈ es, e = 0 := by
  induction es with
  | nil => simp [firstE]
  | cons e es ih =>
    unfold firstE
    by_cases h : e = 0
    · rw [if_pos h, ih]; simp [h]
    · rw [if_neg h]; simp [h]
theorem unl_zero {b : Bool} {n : Int} (hn : n ≠ 0) : unl b n = 0 ↔ b = true := by
  unfold unl
  cases b <;> simp [hn]
theorem within_iff {n lo hi : Int} : within n lo hi = true ↔ lo ≤ n ∧ n ≤ hi := by simp [within]
theorem scanL_all : ∀ (l : List Int) (k : Nat), scanL l k = none → ∀ i, i < l.length → l.getD i 0 = 0
  | [], _, _, i, h => by simp at h
  | e :: l, k, h, i, hi => by
    unfold scanL at h
    split at h
    · rename_i he
      cases i with
      | zero => simpa using he
      | succ i => simpa using scanL_all l (k + 1) h i (by simpa using hi)
    · cases h
theorem scanL_ne : ∀ (l : List Int) (k : Nat) {i : Nat} {e : Int}, scanL l k = some (i, e) → e ≠ 0
  | [], _, _, _, h => by cases h
  | e :: l, k, i, e', h => by
    unfold scanL at h
    split at h
    · exact scanL_ne l (k + 1) h
    · rename_i he; cases h; exact he
theorem rangeE_zero {lo hi m : Int} : rangeE lo hi m = 0 ↔ 0 ≤ lo ∧ lo ≤ m ∧ 0 ≤ hi ∧ hi ≤ m ∧ lo ≤ hi := by
  unfold rangeE
  rw [firstE_zero]
  simp only [List.mem_cons, List.not_mem_nil, or_false, forall_eq_or_imp, forall_eq]
  rw [unl_zero (by decide), unl_zero (by decide), Bool.and_eq_true, within_iff, within_iff, decide_eq_true_eq]
  omega
structure BookR (ps : List Pa) (es : List En) : Prop where
  n1 : 1 ≤ ps.length
  n5 : ps.length ≤ 5
  e8 : es.length ≤ 8
  part : ∀ i p, ps[i]? = some p → nameB p.nm.data.toList = true ∧ (ps.take i).any (fun q => eqS q.nm p.nm) = false ∧ (0 ≤ p.a0 ∧ p.a0 ≤ 400 ∧ 0 ≤ p.a1 ∧ p.a1 ≤ 400 ∧ p.a0 ≤ p.a1) ∧ (0 ≤ p.c0 ∧ p.c0 ≤ 20 ∧ 0 ≤ p.c1 ∧ p.c1 ≤ 20 ∧ p.c0 ≤ p.c1)
  ent : ∀ i x, es[i]? = some x → nameB x.nm.data.toList = true ∧ (es.take i).any (fun y => eqS y.nm x.nm) = false ∧ x.co.length = ps.length ∧ ∀ n ∈ x.mo :: x.co, n.natAbs ≤ 20
theorem bookR_iff {ps : List Pa} {es : List En} : (bookV ps es).2 = 0 ↔ BookR ps es := by
  have hs : sizeE ps.length = 0 ↔ 1 ≤ ps.length ∧ ps.length ≤ 5 := by
    unfold sizeE
    rw [firstE_zero]
    simp only [List.mem_cons, List.not_mem_nil, or_false, forall_eq_or_imp, forall_eq]
    rw [unl_zero (by decide), unl_zero (by decide), decide_eq_true_eq, decide_eq_true_eq]
    omega
  have hp : ∀ i p, partE ps i p = 0 ↔ nameB p.nm.data.toList = true ∧ (ps.take i).any (fun q => eqS q.nm p.nm) = false ∧ (0 ≤ p.a0 ∧ p.a0 ≤ 400 ∧ 0 ≤ p.a1 ∧ p.a1 ≤ 400 ∧ p.a0 ≤ p.a1) ∧ (0 ≤ p.c0 ∧ p.c0 ≤ 20 ∧ 0 ≤ p.c1 ∧ p.c1 ≤ 20 ∧ p.c0 ≤ p.c1) := fun i p => by
    unfold partE
    rw [firstE_zero]
    simp only [List.mem_cons, List.not_mem_nil, or_false, forall_eq_or_imp, forall_eq]
    rw [unl_zero (by decide), unl_zero (by decide), rangeE_zero, rangeE_zero, Bool.not_eq_true']
  have he : ∀ i x, entE ps.length es i x = 0 ↔ nameB x.nm.data.toList = true ∧ (es.take i).any (fun y => eqS y.nm x.nm) = false ∧ x.co.length = ps.length ∧ ∀ n ∈ x.mo :: x.co, n.natAbs ≤ 20 := fun i x => by
    unfold entE
    rw [firstE_zero]
    simp only [List.mem_cons, List.not_mem_nil, or_false, forall_eq_or_imp, forall_eq]
    rw [unl_zero (by decide), unl_zero (by decide), unl_zero (by decide), unl_zero (by decide), Bool.not_eq_true', Bool.not_eq_true', decide_eq_true_eq]
    have hsm : ∀ n : Int, smallB n 20 = true ↔ n.natAbs ≤ 20 := fun n => by unfold smallB; rw [within_iff]; omega
    have : (x.mo :: x.co).any (fun n => !smallB n 20) = false ↔ ∀ n ∈ x.mo :: x.co, n.natAbs ≤ 20 := by
      rw [List.any_eq_false]
      constructor
      · intro h n hn
        have := h n hn
        rw [← hsm]
        simpa using this
      · intro h n hn
        have := (hsm n).2 (h n hn)
        simp [this]
    rw [this]
    simp
  unfold bookV
  constructor
  · intro h
    split at h
    · rename_i h1; exact absurd h h1
    · rename_i h1
      have h1 := hs.1 (by simpa using h1)
      split at h
      · rename_i k e h2; exact absurd h (scanL_ne _ _ h2)
      · rename_i h2
        split at h
        · cases h
        · rename_i h8
          split at h
          · rename_i k e h3; exact absurd h (scanL_ne _ _ h3)
          · rename_i h3
            refine ⟨h1.1, h1.2, by omega, fun i p hi => ?_, fun i x hi => ?_⟩
            · rw [← hp, ← partEs_get hi]
              exact scanL_all _ _ h2 i (by simpa [partEs] using (List.getElem?_eq_some_iff.1 hi).1)
            · rw [← he, ← entEs_get hi]
              exact scanL_all _ _ h3 i (by simpa [entEs] using (List.getElem?_eq_some_iff.1 hi).1)
  · intro h
    rw [if_neg (by simp [hs.2 ⟨h.n1, h.n5⟩])]
    rw [scanL_none (partEs ps) 0 fun i hi => by
      have hi' : i < ps.length := by simpa [partEs] using hi
      rw [partEs_get (List.getElem?_eq_getElem hi'), hp]
      exact h.part i _ (List.getElem?_eq_getElem hi')]
    simp only
    rw [if_neg (by have := h.e8; omega)]
    rw [scanL_none (entEs ps.length es) 0 fun i hi => by
      have hi' : i < es.length := by simpa [entEs] using hi
      rw [entEs_get (List.getElem?_eq_getElem hi'), he]
      exact h.ent i _ (List.getElem?_eq_getElem hi')]
theorem BookR.right {ps : List Pa} {es : List En} (h : BookR ps es) : RightE es ps.length := by
  refine ⟨h.e8, fun x hx => ?_⟩
  obtain ⟨i, hi⟩ := List.mem_iff_getElem?.1 hx
  obtain ⟨-, -, h3, h4⟩ := h.ent i x hi
  exact ⟨h3, fun n hn => h4 n (List.mem_cons_of_mem _ hn), h4 _ (by simp)⟩
theorem BookR.worths {ps : List Pa} {es : List En} (h : BookR ps es) (k ag : Int) : Small 400 (worthL ps k ag) := by
  intro n hn
  obtain ⟨p, hp, rfl⟩ := List.mem_map.1 hn
  obtain ⟨i, hi⟩ := List.mem_iff_getElem?.1 hp
  obtain ⟨-, -, h3, -⟩ := h.part i p hi
  split
  · omega
  · split <;> decide
theorem bothE_zero {ps : List Pa} {es : List En} {k ag : Int} : bothE ps es k ag = 0 ↔ BookR ps es ∧ askE k ag = 0 := by
  unfold bothE
  rw [firstE_zero]
  simp only [List.mem_cons, List.not_mem_nil, or_false, forall_eq_or_imp, forall_eq]
  rw [bookR_iff]
theorem askE_zero {k ag : Int} : askE k ag = 0 ↔ (k = 0 ∨ k = 1) ∧ 0 ≤ ag ∧ ag ≤ 400 := by
  unfold askE
  rw [firstE_zero]
  simp only [List.mem_cons, List.not_mem_nil, or_false, forall_eq_or_imp, forall_eq]
  rw [unl_zero (by decide), unl_zero (by decide), within_iff, within_iff]
  omega
end Go.Proofs

set_option linter.unusedSimpArgs false
set_option linter.unusedVariables false
namespace Go.Proofs
open Go.RowKit
section
variable {P : Program}
/-! As region_last, within another law: it may stand upon itself and upon any_gen. -/
theorem any_last {Q : Exit → Act → World → Prop} {a0 : Act} {w : World} {l : List Oper} (n : Nat) (oz : Oper) (hn : l.length = n + 1) (hz : l[n]? = some oz)
    (hB : slotsOk (l.take n).toArray = true) (hG : l.all (fun o => o.guard.isNone) = true) (hA : (List.range n).all (fun i => oz.after.any fun e => Region.binds .any e && e.on == i) = true) (hE : oz.after.all (fun e => !Region.binds .any e || decide (e.on < n)) = true)
    (h : wpAny P .any (l.take n).toArray (fun e a x => match e with | .normal => oz.wp P a x (fun a' x' => Q .normal a' x') Q | e => Q e a x) (l.take n).toArray.size (Array.replicate (l.take n).toArray.size false) a0 { w with drawn := w.drawn + 1 }) :
    wpAny P .any l.toArray Q l.toArray.size (Array.replicate l.toArray.size false) a0 { w with drawn := w.drawn + 1 } := by
  have H := slotsOk_spec hB
  have hlen : (l.take n).length = n := by simp; omega
  have hgn : ∀ (i : Nat) (o : Oper), l[i]? = some o → o.guard = none := fun i o ho => by
    have := List.all_eq_true.1 hG o (List.mem_of_getElem? ho)
    simpa using this
  have get0 : ∀ i, i < n → (l.take n).toArray[i]? = l.toArray[i]? := fun i hi => by simp [List.getElem?_take_of_lt hi]
  have getn : ∀ i, n ≤ i → (l.take n).toArray[i]? = none := fun i hi => by simp [List.getElem?_eq_none (show (l.take n).length ≤ i by omega)]
  have pushD : ∀ (listed : Array Bool) (b d : Bool) (i : Nat), listed.size = n → i < n → (listed.push b).getD i d = listed.getD i d := fun listed b d i hs hi => by
    rw [Array.getD_eq_getD_getElem?, Array.getD_eq_getD_getElem?, Array.getElem?_push_lt (by omega)]
    simp [Array.getElem?_eq_getElem (show i < listed.size by omega)]
  have pushL : ∀ (listed : Array Bool) (b d : Bool), listed.size = n → (listed.push b).getD n d = b := fun listed b d hs => by
    rw [Array.getD_eq_getD_getElem?, ← hs]
    simp
  have rdy : ∀ (listed : Array Bool) (b : Bool) (i : Nat), listed.size = n → i < n → (i ∈ Region.ready .any l.toArray (listed.push b) ↔ i ∈ Region.ready .any (l.take n).toArray listed) := fun listed b i hs hi => by
    rw [mem_ready, mem_ready, pushD _ _ _ _ hs hi, get0 i hi]
    constructor
    · rintro ⟨h1, o, ho, h2⟩
      refine ⟨h1, o, ho, fun e he hb => ?_⟩
      have := H.after i o e ((get0 i hi).trans ho) he hb
      rw [← pushD listed b false e.on hs (by omega)]
      exact h2 e he hb
    · rintro ⟨h1, o, ho, h2⟩
      refine ⟨h1, o, ho, fun e he hb => ?_⟩
      have := H.after i o e ((get0 i hi).trans ho) he hb
      rw [pushD listed b false e.on hs (by omega)]
      exact h2 e he hb
  have gen : ∀ (f : Nat) (listed : Array Bool) (a : Act) (x : World), listed.size = n → wpAny P .any (l.take n).toArray (fun e a x => match e with | .normal => oz.wp P a x (fun a' x' => Q .normal a' x') Q | e => Q e a x) f listed a x → wpAny P .any l.toArray Q (f + 1) (listed.push false) a x := by
    have fin : ∀ (f : Nat) (listed : Array Bool) (a : Act) (x : World), listed.size = n → (∀ i, i < n → listed.getD i true = true) → oz.wp P a x (fun a' x' => Q .normal a' x') Q → wpAny P .any l.toArray Q (f + 1) (listed.push false) a x := by
      intro f listed a x hs hu hw
      have hrn : n ∈ Region.ready .any l.toArray (listed.push false) := by
        rw [mem_ready]
        refine ⟨pushL _ _ _ hs, oz, by simpa using hz, fun e he hb => ?_⟩
        have h1 := Array.all_eq_true'.1 hE e he
        rw [hb] at h1
        simp only [Bool.not_true, Bool.false_or, decide_eq_true_eq] at h1
        rw [pushD _ _ _ _ hs h1]
        have := hu e.on h1
        rw [Array.getD_eq_getD_getElem?, Array.getElem?_eq_getElem (by omega)] at this ⊢
        exact this
      refine ⟨fun h0 => (by rw [h0] at hrn; cases hrn), fun i hi => ?_⟩
      have hin : i = n := by
        obtain ⟨h1, o, ho, -⟩ := mem_ready.1 hi
        have hlt : i < l.length := by simpa using lt_of_some ho
        rcases Nat.lt_or_ge i n with h | h
        · rw [pushD _ _ _ _ hs h, hu i h] at h1
          cases h1
        · omega
      subst hin
      have hset : (listed.push false).setIfInBounds i true = listed.push true := by
        apply Array.ext_getElem?
        intro j
        rw [Array.getElem?_setIfInBounds, Array.getElem?_push, Array.getElem?_push]
        simp only [Array.size_push, hs]
        by_cases h : i = j
        · subst h; simp [hs]
        · simp [h, hs, Ne.symm h]
      have hlast : wpAny P .any l.toArray Q f (listed.push true) = fun a' x' => wpAny P .any l.toArray Q f (listed.push true) a' x' := rfl
      have hr0 : Region.ready .any l.toArray (listed.push true) = [] := by
        rw [List.eq_nil_iff_forall_not_mem]
        intro j hj
        obtain ⟨h1, o, ho, -⟩ := mem_ready.1 hj
        have hlt : j < l.length := by simpa using lt_of_some ho
        rcases Nat.lt_or_ge j i with h | h
        · rw [pushD _ _ _ _ hs h, hu j h] at h1
          cases h1
        · have : j = i := by omega
          subst this
          rw [pushL _ _ _ hs] at h1
          cases h1
      have hK : ∀ a' x', Q .normal a' x' → wpAny P .any l.toArray Q f (listed.push true) a' x' := fun a' x' h => by
        cases f with
        | zero => exact ⟨hr0, h⟩
        | succ f => exact ⟨fun _ => h, fun j hj => by rw [hr0] at hj; cases hj⟩
      unfold wpOp
      have hzi : l.toArray[i]? = some oz := by simpa using hz
      simp only [hzi]
      have hwn : Region.wanted oz (yielded l.toArray a.tmps) = true := by unfold Region.wanted; rw [hgn i oz hz]
      rw [if_pos hwn, hset]
      exact .inl (Oper.wp_mono hK hw)
    intro f
    induction f with
    | zero =>
      rintro listed a x hs ⟨hr, hq⟩
      exact fin 0 listed a x hs (fun i hi => all_up H (by simp [hs]; omega) hr i (by simp; omega)) hq
    | succ f ih =>
      rintro listed a x hs ⟨hr, hq⟩
      by_cases hr0 : Region.ready .any (l.take n).toArray listed = []
      · exact fin (f + 1) listed a x hs (fun i hi => all_up H (by simp [hs]; omega) hr0 i (by simp; omega)) (hr hr0)
      · have hnn : ∀ i, i ∈ Region.ready .any l.toArray (listed.push false) → i < n := by
          intro i hi
          obtain ⟨h1, o, ho, h2⟩ := mem_ready.1 hi
          have hlt : i < l.length := by simpa using lt_of_some ho
          rcases Nat.lt_or_ge i n with h | h
          · exact h
          · have hin : i = n := by omega
            subst hin
            exfalso
            obtain ⟨j, hj⟩ := List.exists_mem_of_ne_nil _ hr0
            obtain ⟨h3, o3, ho3, -⟩ := mem_ready.1 hj
            have hji : j < i := by
              rcases Nat.lt_or_ge j i with h | h
              · exact h
              · rw [getn j h] at ho3; cases ho3
            have hzo : o = oz := by
              rw [show l.toArray[i]? = l[i]? by simp, hz] at ho
              exact (Option.some.inj ho).symm
            subst hzo
            have h4 := List.all_eq_true.1 hA j (List.mem_range.2 hji)
            obtain ⟨e, he, hb⟩ := Array.any_eq_true'.1 h4
            simp only [Bool.and_eq_true, beq_iff_eq] at hb
            have h5 := h2 e he hb.1
            rw [hb.2, pushD _ _ _ _ hs hji] at h5
            rw [Array.getD_eq_getD_getElem?, Array.getElem?_eq_getElem (by omega)] at h3 h5
            simp only [Option.getD_some] at h3 h5
            rw [h3] at h5
            cases h5
        refine ⟨fun h0 => ?_, fun i hi => ?_⟩
        · exfalso
          obtain ⟨j, hj⟩ := List.exists_mem_of_ne_nil _ hr0
          have hji : j < n := by
            obtain ⟨h3, o3, ho3, -⟩ := mem_ready.1 hj
            rcases Nat.lt_or_ge j n with h | h
            · exact h
            · rw [getn j h] at ho3; cases ho3
          have := (rdy listed false j hs hji).2 hj
          rw [h0] at this
          cases this
        · have hin := hnn i hi
          have hi0 := (rdy listed false i hs hin).1 hi
          have h6 := hq i hi0
          obtain ⟨-, o, ho, -⟩ := mem_ready.1 hi0
          have hol : l.toArray[i]? = some o := (get0 i hin).symm.trans ho
          have hg := hgn i o (by simpa using hol)
          unfold wpOp at h6 ⊢
          simp only [ho] at h6
          simp only [hol]
          have hw1 : ∀ y, Region.wanted o y = true := fun y => by unfold Region.wanted; rw [hg]
          rw [if_pos (hw1 _)] at h6
          rw [if_pos (hw1 _)]
          have hset : (listed.push false).setIfInBounds i true = (listed.setIfInBounds i true).push false := by
            apply Array.ext_getElem?
            intro j
            rw [Array.getElem?_setIfInBounds, Array.getElem?_push, Array.getElem?_push, Array.getElem?_setIfInBounds]
            simp only [Array.size_push, Array.size_setIfInBounds, hs]
            by_cases h : i = j
            · subst h; simp [hs, hin, Nat.lt_succ_of_lt hin, Nat.ne_of_lt hin]
            · simp [h]
          rw [hset]
          have hmono : ∀ a' x', wpAny P .any (l.take n).toArray (fun e a x => match e with | .normal => oz.wp P a x (fun a' x' => Q .normal a' x') Q | e => Q e a x) f (listed.setIfInBounds i true) a' x' → wpAny P .any l.toArray Q (f + 1) ((listed.setIfInBounds i true).push false) a' x' := fun a' x' h => ih _ a' x' (by simp [hs]) h
          rcases h6 with h6 | ⟨h6, h7⟩
          · left
            refine Oper.wp_mono hmono ?_
            unfold Oper.wp at h6 ⊢
            generalize (execOp a.eval o).run P x = r at *
            cases r with
            | ok nx w' =>
              cases nx with
              | enter f' args => exact (show Calls P f' args w' _ from h6).mono fun e w'' he => by cases e <;> exact he
              | _ => exact h6
            | halt v w' => cases v <;> exact h6
          · right
            exact ⟨h6, h7⟩
  have hpr : (Array.replicate (l.take n).toArray.size false).push false = Array.replicate l.toArray.size false := by
    rw [← Array.replicate_succ]
    congr 1
    simp
    omega
  have := gen _ _ _ _ (by simp; omega) h
  rw [hpr] at this
  have e : (l.take n).toArray.size + 1 = l.toArray.size := by simp; omega
  rwa [e] at this
/-! Single operations that stand last. -/
theorem oper_value {K : Act → World → Prop} {Q : Exit → Act → World → Prop} {o : Oper} {a : Act} {w : World} (v : Value) (h : (execOp a.eval o).run P w = .ok (.value v) w) (hK : K (a.put o.dst v) w) : o.wp P a w K Q := by
  unfold Oper.wp
  rw [h]
  exact hK
theorem oper_store_block {K : Act → World → Prop} {Q : Exit → Act → World → Prop} {o : Oper} {a : Act} {w : World} (p q : Operand) (t : TypeId) (ho : o.op = .store t p q) (b : Nat) (vs cs : List Value) (T : TypeId) (hp : a.eval p = .pointer (some ⟨b, 0, none⟩)) (hq : a.eval q = .agg vs.toArray)
    (hsz : (sizeOf t).run P w = .ok vs.length w) (hb : w.heap[b]? = some (.cells cs.toArray T (0, 0))) (hl : cs.length = vs.length) (h1 : ∀ u ∈ vs, u.oneCell' = true)
    (h : ∀ w', w'.heap[b]? = some (.cells vs.toArray T (0, 0)) → w.grownBy w' (some b) → w'.heap.size = w.heap.size → K (a.put o.dst undef) w') : o.wp P a w K Q := by
  obtain ⟨x', r1, r2, r3, r4⟩ := run_storeCells (P := P) b T vs 0 cs w hb (by omega) h1
  unfold Oper.wp execOp
  have e2 : (storeVar t ⟨b, 0, none⟩ (.agg vs.toArray)).run P w = .ok () x' := by
    unfold storeVar
    simp only [Sem.run_bind, hsz, Result.andThen_ok, Value.cells, List.size_toArray, ne_eq, not_true_eq_false, if_false]
    exact r1
  simp only [ho, Instr.storeAt, Instr.sureAddr, hp, hq, Sem.run_bind, Sem.run_pure, Result.andThen_ok, e2]
  refine h x' ?_ r3 r4
  rw [r2]
  congr 2
  apply congrArg
  simp [hl]
end
end Go.Proofs

set_option linter.unusedSimpArgs false
set_option linter.unusedVariables false
namespace Go.Proofs

/-! What a mix, and a proof, of a basis are (plain). -/
theorem dotL_ones : ∀ (n : Nat) (l : List Int), l.length ≤ n → dotL (List.replicate n 1) l = l.sum
  | n, [], _ => by cases n <;> simp [List.replicate, dotL]
  | 0, _ :: _, h => by simp at h
  | n + 1, x :: l, h => by
    simp only [List.replicate_succ, dotL, List.sum_cons]
    rw [dotL_ones n l (by simpa using h)]
    omega
theorem unitL_get (n i k : Nat) (hk : k < n) : (unitL n i).getD k 0 = if k = i then 1 else 0 := by
  simp [unitL, List.getD_eq_getElem?_getD, List.getElem?_range hk]
theorem wsum_unit (m : List Int) (i : Nat) : wsum m (fun k => if k = i then 1 else 0) = m.getD i 0 := by
  induction m generalizing i with
  | nil => simp [wsum]
  | cons x m ih =>
    cases i with
    | zero =>
      have : wsum m (fun k => if k + 1 = 0 then (1 : Int) else 0) = 0 := by
        rw [show (fun k : Nat => if k + 1 = 0 then (1 : Int) else 0) = fun _ => 0 by funext k; simp]
        exact wsum_zero m
      simp only [wsum, this]
      simp
    | succ i =>
      have := ih i
      simp only [wsum]
      rw [show (fun k : Nat => if k + 1 = i + 1 then (1 : Int) else 0) = fun k => if k = i then 1 else 0 by funext k; simp]
      rw [this]
      simp
theorem dotL_unit {n i : Nat} {l : List Int} (h : l.length ≤ n) : dotL (unitL n i) l = l.getD i 0 := by
  rw [dotL_wsum _ _ (by simp [unitL]; exact h), ← wsum_unit l i]
  apply wsum_congr
  intro k x hk _
  exact unitL_get n i k (Nat.lt_of_lt_of_le (List.getElem?_eq_some_iff.1 hk).1 h)
/-- What is said of a mix of a basis. -/
structure MixOf (np : Nat) (es : List Ex) (z t : List Nat) (m : List Int) (d : Int) : Prop where
  len : m.length = np
  den : 0 < d
  nn : ∀ x ∈ m, 0 ≤ x
  sum : m.sum = d
  zero : ∀ i ∈ z, m.getD i 0 = 0
  per : ∀ x ∈ es, dotL x.1 m ≤ x.2 * d
  tight : ∀ i ∈ t, ∀ x, es[i]? = some x → dotL x.1 m = x.2 * d
theorem sum_scale (g : Int) : ∀ m : List Int, (m.map (g * ·)).sum = g * m.sum
  | [] => by simp
  | x :: m => by simp only [List.map_cons, List.sum_cons]; rw [sum_scale g m]; grind
theorem getD_scale (g : Int) (m : List Int) (i : Nat) : (m.map (g * ·)).getD i 0 = g * m.getD i 0 := by
  simp only [List.getD_eq_getElem?_getD, List.getElem?_map]
  cases m[i]? <;> simp
theorem mixLP_of {np : Nat} {es : List Ex} {z t : List Nat} {m : List Int} {d : Int} (h : mixLP np es z t = some (m, d)) (hnp : 1 ≤ np) (h5 : np ≤ 5) (hes : ∀ x ∈ es, x.1.length = np)
    (hz : ∀ i ∈ z, i < np) (ht : ∀ i ∈ t, i < es.length) (hzt : z.length + t.length + 1 = np) : MixOf np es z t m d := by
  unfold mixLP at h
  split at h
  · cases h
  rename_i l den hs
  split at h
  · cases h
  rename_i hnn
  split at h
  · cases h
  rename_i hper
  have hrl : (mixRows np es z t).length = np := by simp [mixRows]; omega
  have hrow : ∀ row ∈ mixRows np es z t, row.length = (mixRows np es z t).length + 1 := by
    intro row hr
    rw [hrl]
    simp only [mixRows, List.mem_cons, List.mem_append, List.mem_map] at hr
    rcases hr with rfl | ⟨i, hi, rfl⟩ | ⟨i, hi, rfl⟩
    · simp
    · simp [unitL]
    · have hx : es.getD i default ∈ es := by
        rw [List.getD_eq_getElem?_getD, List.getElem?_eq_getElem (ht i hi)]
        exact List.getElem_mem _
      rw [List.length_append, hes _ hx]
      rfl
  obtain ⟨hden, hlen, hsol⟩ := solL_row hs (by omega) hrow
  rw [hrl] at hlen hsol
  have hg : 0 < gcdL 0 (den :: l) := gcdL_pos den (by simp) (by omega)
  obtain ⟨-, hdv⟩ := gcdL_dvd (den :: l) 0
  generalize gcdL 0 (den :: l) = g at *
  have hgI : (0 : Int) < g := by omega
  obtain ⟨rfl, rfl⟩ : _ ∧ _ := by simpa using h
  have el := map_div_mul hgI (l := l) fun x hx => hdv x (by simp [hx])
  have ed : (g : Int) * (den / g) = den := Int.mul_ediv_cancel' (hdv den (by simp))
  have hlen' : (l.map (· / (g : Int))).length = np := by simpa using hlen
  generalize l.map (· / (g : Int)) = m at *
  generalize den / (g : Int) = d at *
  subst el ed
  have cancel : ∀ {a b : Int}, (g : Int) * a = g * b → a = b := fun h => Int.eq_of_mul_eq_mul_left (by omega) h
  refine ⟨hlen', ?_, ?_, ?_, ?_, ?_, ?_⟩
  · exact Int.lt_of_mul_lt_mul_left (a := (g : Int)) (by simpa using hden) (by omega)
  · intro x hx
    simp only [List.any_eq_true, List.mem_map, decide_eq_true_eq, not_exists, not_and] at hnn
    have := hnn (g * x) ⟨x, hx, rfl⟩
    have h0 : 0 ≤ (g : Int) * x := by omega
    exact Int.le_of_mul_le_mul_left (a := (g : Int)) (by simpa using h0) hgI
  · have := hsol (List.replicate (np + 1) 1) (by simp [mixRows])
    rw [dotL_ones _ _ (by rw [hlen]; omega), sum_scale] at this
    have e1 : (List.replicate (np + 1) (1 : Int)).getD np 0 = 1 := by simp [List.getD_eq_getElem?_getD]
    rw [e1] at this
    exact cancel (by omega)
  · intro i hi
    have := hsol (unitL (np + 1) i) (by simp only [mixRows, List.mem_cons, List.mem_append, List.mem_map]; exact .inr (.inl ⟨i, hi, rfl⟩))
    rw [dotL_unit (by rw [hlen]; omega), unitL_get _ _ _ (by omega), if_neg (by have := hz i hi; omega), getD_scale] at this
    exact cancel (by omega)
  · intro x hx
    simp only [List.any_eq_true, not_exists, not_and] at hper
    have := hper x hx
    simp only [Bool.not_eq_true', decide_eq_false_iff_not, Bool.not_eq_false, Int.not_le, Int.not_lt, decide_eq_true_eq] at this
    rw [dotL_scale] at this
    have h2 : (g : Int) * dotL x.1 m ≤ g * (x.2 * d) := by grind
    exact Int.le_of_mul_le_mul_left h2 hgI
  · intro i hi x hx
    have hxe : es.getD i default = x := by rw [List.getD_eq_getElem?_getD, hx]; rfl
    have := hsol (x.1 ++ [x.2]) (by simp only [mixRows, List.mem_cons, List.mem_append, List.mem_map]; exact .inr (.inr ⟨i, hi, by rw [hxe]⟩))
    have hxl := hes x (List.mem_of_getElem? hx)
    rw [dotL_app _ _ _ (by rw [hlen, hxl]), dotL_scale] at this
    have e1 : (x.1 ++ [x.2]).getD np 0 = x.2 := by simp [List.getD_eq_getElem?_getD, ← hxl]
    rw [e1] at this
    exact cancel (by grind)
end Go.Proofs
