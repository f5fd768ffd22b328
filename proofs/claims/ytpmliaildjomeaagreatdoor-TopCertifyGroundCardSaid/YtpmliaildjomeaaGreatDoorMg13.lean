import Derived.Test.YtpmliaildjomeaaGreatDoorMg5
import Derived.Test.YtpmliaildjomeaaGreatDoorMg1
import Derived.RangeFuncNested
import Derived.RangeFuncBound
import Derived.RangeFuncCalls
import Derived.Shelf.Abstract
import Derived.Shelf.RegionOpen
import Derived.WalkKit
import Derived.OwnWalkIn
import Derived.TacticsInMore
import Derived.LoopNIn
import Derived.LoopIn
import Derived.Test.YtpmliaildjomeaaGreatDoorMg2
import Derived.Test.YtpmliaildjomeaaGreatDoorMg6
import Derived.Test.YtpmliaildjomeaaGreatDoorMg10
import Derived.Test.YtpmliaildjomeaaGreatDoorMg12
import Derived.Test.YtpmliaildjomeaaGreatDoorMg3
import Derived.Deep.AppendLies
set_option linter.unusedSimpArgs false
set_option linter.unusedVariables false
namespace Go.Proofs
open Go.RowKit

/-! Ranges over a function, whose rounds may keep blocks of their own, and read what they are given. -/
/-- All blocks but those of 'M' lie as they lay. -/
structure Lie (M : Nat → Prop) (W W' : World) : Prop where
  size : W.heap.size ≤ W'.heap.size
  same : ∀ k, k < W.heap.size → ¬ M k → W'.heap[k]? = W.heap[k]?
theorem Lie.refl (M : Nat → Prop) (W : World) : Lie M W W := ⟨Nat.le_refl _, fun _ _ _ => rfl⟩
theorem Lie.trans {M : Nat → Prop} {A B C : World} (h : Lie M A B) (k : Lie M B C) : Lie M A C := ⟨Nat.le_trans h.size k.size, fun i hi hm => (k.same i (Nat.lt_of_lt_of_le hi h.size) hm).trans (h.same i hi hm)⟩
theorem Lie.mono {M M' : Nat → Prop} {A B : World} (h : Lie M A B) (hm : ∀ k, k < A.heap.size → M k → M' k) : Lie M' A B := ⟨h.size, fun k hk hn => h.same k hk fun e => hn (hm k hk e)⟩
theorem Lie.of_below {W W' : World} (M : Nat → Prop) (h : Below W.heap.size W W') : Lie M W W' := ⟨h.size, fun k hk _ => h.block k hk⟩
theorem Lie.of_grown {W W' : World} {row : Option Nat} {M : Nat → Prop} (h : W.grownBy W' row) (hr : ∀ r, row = some r → M r) : Lie M W W' := ⟨h.size, fun k hk hn => h.block k hk fun e => hn (hr k e.symm)⟩
theorem Lie.putObj {M : Nat → Prop} (W : World) (l : Nat) (o : Obj) (h : M l) : Lie M W (W.putObj l o) := .of_grown (grownBy_putObj' W l o) fun r e => by cases e; exact h
theorem Lie.setCell {M : Nat → Prop} (W : World) {p : Addr} (u : Value) (h : M p.block) : Lie M W (W.setCell p u) := ⟨by simp, fun k hk hn => Below.heap_setCell W p u k fun e => hn (e ▸ h)⟩
theorem Lie.cell {M : Nat → Prop} {W W' : World} (h : Lie M W W') {k o : Nat} {v : Value} (hk : ¬ M k) (hc : W.cell? ⟨k, o, none⟩ = some v) : W'.cell? ⟨k, o, none⟩ = some v := by
  rw [← hc]
  exact World.cell?_of_block (a := ⟨k, o, none⟩) (h.same k (World.block_lt_of_cell? _ _ hc) hk)
theorem Lie.obj {M : Nat → Prop} {W W' : World} (h : Lie M W W') {k : Nat} {o : Obj} (hk : ¬ M k) (hc : W.heap[k]? = some o) : W'.heap[k]? = some o := (h.same k (Array.getElem?_eq_some_iff.1 hc).1 hk).trans hc

/-- What is said abides whatever happens to blocks from 'B' on, but those of 'T' and those that were given away. -/
def AbideT {α : Type} (gv : α → Nat → Prop) (B : Nat) (J : List α → (Nat → Prop) → World → Prop) : Prop :=
  ∀ s T W W' row, J s T W → W.grownBy W' row → (∀ r, row = some r → B ≤ r ∧ ¬ T r ∧ ∀ x ∈ s, ¬ gv x r) → J s T W'
/-- AN ITERATOR's CONTRACT. -/
def StopsW {α : Type} (F : Fence) (n : Nat) (P : Program) (g : Nat) (lb : Array Value) (encs : α → Array Value) (gv : α → Nat → Prop) (M : Nat → Prop) (Ok : List α → α → World → Prop) (S Sp : List α → Prop) (N : Nat) (w : World) : Prop :=
  ∀ (l : Nat) (J Jx : List α → (Nat → Prop) → World → Prop) (W : World), Below w.heap.size w W → w.heap.size ≤ l → l < W.heap.size → AbideT gv W.heap.size J → AbideT gv W.heap.size Jx →
    (∀ pre T x W1, J pre T W1 → (∀ r, T r → W.heap.size ≤ r ∧ r < W1.heap.size) → (∀ y ∈ pre ++ [x], ∀ r, gv y r → W.heap.size ≤ r) → pre.length < N → Ok pre x W1 → YieldAt F (n - 1) P l (encs x) W1 fun e W' =>
      ∃ T', (∀ r, T' r → T r ∨ W1.heap.size ≤ r) ∧ (∀ r, T' r → r < W'.heap.size) ∧ Lie (fun k => M k ∨ T k ∨ k = l) W1 W' ∧
        ((e = .returned (.bool true) ∧ J (pre ++ [x]) T' W') ∨ (e = .returned (.bool false) ∧ Jx (pre ++ [x]) T' W'))) →
    J [] (fun _ => False) W →
    CallsIn F n P g (#[.func (.yield l) #[] #[]] ++ lb) W fun e W' => (∃ v, e = .returned v) ∧ ((∃ xs T, S xs ∧ J xs T W') ∨ (∃ pre T, Sp pre ∧ Jx pre T W'))

/-- How the body of a round may be left. -/
def outW {α : Type} (M T : Nat → Prop) (I : List α → (Nat → Prop) → World → Prop) (Ix : Code → List α → (Nat → Prop) → World → Prop) (xs : List α) (W : World) : Exit → Act → World → Prop
  | .normal, _, W' => ∃ T', (∀ r, T' r → T r ∨ W.heap.size ≤ r) ∧ (∀ r, T' r → r < W'.heap.size) ∧ Lie (fun k => M k ∨ T k) W W' ∧ I xs T' W'
  | .ret, _, W' => ∃ T', (∀ r, T' r → T r ∨ W.heap.size ≤ r) ∧ (∀ r, T' r → r < W'.heap.size) ∧ Lie (fun k => M k ∨ T k) W W' ∧ Ix .ret xs T' W'
  | .exit id, _, W' => ∃ T', (∀ r, T' r → T r ∨ W.heap.size ≤ r) ∧ (∀ r, T' r → r < W'.heap.size) ∧ Lie (fun k => M k ∨ T k) W W' ∧ Ix (.exit id) xs T' W'
  | .goto t, _, W' => ∃ T', (∀ r, T' r → T r ∨ W.heap.size ≤ r) ∧ (∀ r, T' r → r < W'.heap.size) ∧ Lie (fun k => M k ∨ T k) W W' ∧ Ix (.goto t) xs T' W'
  | .panic _, _, _ => False
  | .outgrown, _, _ => False

variable {F : Fence} {n : Nat} {P : Program}
theorem wp_rangeW {α : Type} {g : Operand} {ps : Array Tmp} {assign body : Code} {Q : Exit → Act → World → Prop} {a : Act} {w : World}
    (hro : F.round = none) (h1 : 1 ≤ n) {gf : Nat} {lb : Array Value} (hg : a.eval g = .func (.func gf) #[] lb) (hFg : F.fn gf) (eg : ∀ args w, (callFunc gf args).run P w = .ok (.enter gf args) w)
    {encs : α → Array Value} {gv : α → Nat → Prop} {M : Nat → Prop} {Ok : List α → α → World → Prop} {S Sp : List α → Prop} {N : Nat} (hseq : StopsW F (n - 1) P gf lb encs gv M Ok S Sp N w) (hM : ∀ k, M k → k < w.heap.size)
    (hps : ∀ x, (encs x).size = ps.size)
    (I : List α → (Nat → Prop) → World → Prop) (Ix : Code → List α → (Nat → Prop) → World → Prop) (Ax : List α → (Nat → Prop) → α → Act → World → Prop)
    (hI : AbideT gv w.heap.size I) (hIx : ∀ c, AbideT gv w.heap.size (Ix c))
    (hAx : ∀ pre T x a (W : World) (l : Nat) (o o' : Obj), w.heap.size ≤ l → ¬ T l → (∀ y ∈ pre ++ [x], ¬ gv y l) → W.heap[l]? = some o → o.isCells = false → Ax pre T x a W → Ax pre T x a (W.putObj l o')) (h0 : I [] (fun _ => False) w)
    (hassign : ∀ (l : Nat) (pre : List α) (T : Nat → Prop) (x : α) (W : World), I pre T W → (∀ r, T r → w.heap.size ≤ r ∧ r < W.heap.size) → pre.length < N → Ok pre x W → (∀ y ∈ pre ++ [x], ∀ r, gv y r → w.heap.size ≤ r) →
      assign.wpIn (F.inRound l) (n - 1 - 1) P (Exit.then (fun a₁ W₁ => Lie (fun k => M k ∨ T k) W W₁ ∧ Ax pre T x a₁ W₁) (fun _ _ _ => False)) { tmps := (ps.zip (encs x)).foldl (fun t (p, v) => t.setIfInBounds p v) a.tmps, defers := [] } W)
    (hbody : ∀ (l : Nat) (pre : List α) (T : Nat → Prop) (x : α) (a₁ : Act) (W : World), Ax pre T x a₁ W → (∀ r, T r → w.heap.size ≤ r ∧ r < W.heap.size) → pre.length < N → body.wpIn (F.inRound l) (n - 1 - 1) P (outW M T I Ix (pre ++ [x]) W) a₁ W)
    (hdone : ∀ (D : Nat) (xs : List α) (T : Nat → Prop) (W : World), S xs → I xs T W → D = w.heap.size → W.heap[D]? = some (.deferred (some [])) → Q .normal { a with defers := { target := .collected D, args := #[] } :: a.defers } W)
    (hstop : ∀ (D : Nat) (c : Code) (pre : List α) (T : Nat → Prop) (W : World), Sp pre → Ix c pre T W → D = w.heap.size → W.heap[D]? = some (.deferred (some [])) → c.wpIn F n P Q { a with defers := { target := .collected D, args := #[] } :: a.defers } W) :
    (Code.rangeFunc g ps assign body).wpIn F n P Q a w := by
  refine wpIn_rangeFunc ?_
  intro fn hfn
  rw [hro]
  obtain ⟨rec, hrec⟩ : ∃ rec : LoopState → Option Code → Loop, rec = fun st pe => { state := st, pending := pe, fn, tmps := a.tmps, params := ps, assign, body, defers := w.heap.size } := ⟨_, rfl⟩
  obtain ⟨W1, hW1⟩ : ∃ W1, (w.alloc (.deferred (some []))).alloc (.loop (rec .ready none)) = W1 := ⟨_, rfl⟩
  have hsz1 : W1.heap.size = w.heap.size + 2 := by rw [← hW1]; simp
  have hL1 : W1.heap[w.heap.size + 1]? = some (.loop (rec .ready none)) := by
    rw [← hW1]; have := World.alloc_heap_new (w.alloc (.deferred (some []))) (.loop (rec .ready none)); rwa [World.size_alloc] at this
  have hK1 : W1.heap[w.heap.size]? = some (.deferred (some [])) := by
    rw [← hW1]; exact (Below.heap_alloc _ _ _ (by simp)).trans (World.alloc_heap_new w _)
  have hI1 : I [] (fun _ => False) W1 := by
    rw [← hW1]
    refine hI _ _ _ _ none (hI _ _ _ _ none h0 (World.grownBy_alloc w _ none) (fun r e => by cases e)) (World.grownBy_alloc _ _ none) (fun r e => by cases e)
  have hb1 : Below w.heap.size w W1 := by
    rw [← hW1]; exact ((Below.refl _ w).alloc (Nat.le_refl _) _).alloc (by simp) _
  refine ⟨w.heap.size + 1, [{ target := .collected w.heap.size, args := #[] }], W1, { target := .fn (.func gf) lb, args := #[.func (.yield (w.heap.size + 1)) #[] #[]] }, W1, gf,
    #[.func (.yield (w.heap.size + 1)) #[] #[]] ++ lb, W1, ?_, ?_, ?_, ?_, fun _ => h1, ?_⟩
  · rw [← hW1, hrec]; exact run_enterLoop_outer _ _ _ _ _
  · simp only [resolve, hg]
    simp [go_sem]
  · intro f' hf'; simp [Target.leads] at hf'; subst hf'; exact hFg
  · simp [invoke, go_sem, eg]
  · have keep : ∀ {A B : World} {row : Option Nat} {k : Nat} {o : Obj}, A.grownBy B row → (∀ r, row = some r → W1.heap.size ≤ r) → k < w.heap.size + 2 → A.heap[k]? = some o → B.heap[k]? = some o := fun hg' hr hk ho => by
      rw [hg'.block _ (Array.getElem?_eq_some_iff.1 ho).1 (fun e => by have := hr _ e.symm; omega), ho]
    have putI : ∀ {K : List α → (Nat → Prop) → World → Prop}, AbideT gv w.heap.size K → ∀ {s T W} (o : Obj), K s T W → (∀ r, T r → w.heap.size + 2 ≤ r) → (∀ y ∈ s, ∀ r, gv y r → w.heap.size + 2 ≤ r) → K s T (W.putObj (w.heap.size + 1) o) := fun hK s T W o hs ht hv =>
      hK _ _ _ _ _ hs (grownBy_putObj' W _ o) fun r e => by
        cases e
        exact ⟨by omega, fun h => by have := ht _ h; omega, fun y hy h => by have := hv y hy _ h; omega⟩
    refine (hseq (w.heap.size + 1)
      (fun pre T W => I pre T W ∧ W.heap[w.heap.size + 1]? = some (.loop (rec .ready none)) ∧ W.heap[w.heap.size]? = some (.deferred (some [])) ∧ (∀ r, T r → w.heap.size + 2 ≤ r) ∧ (∀ y ∈ pre, ∀ r, gv y r → w.heap.size + 2 ≤ r))
      (fun pre T W => ∃ c, Ix c pre T W ∧ W.heap[w.heap.size + 1]? = some (.loop (rec .done (some c))) ∧ W.heap[w.heap.size]? = some (.deferred (some [])) ∧ (∀ r, T r → w.heap.size + 2 ≤ r) ∧ (∀ y ∈ pre, ∀ r, gv y r → w.heap.size + 2 ≤ r))
      W1 hb1 (by omega) (by omega)
      (fun s T A B row hs hg' hr => ⟨hI s T A B row hs.1 hg' (fun r e => by have := hr r e; exact ⟨by omega, this.2⟩), keep hg' (fun r e => (hr r e).1) (by omega) hs.2.1, keep hg' (fun r e => (hr r e).1) (by omega) hs.2.2.1, hs.2.2.2⟩)
      (fun s T A B row hs hg' hr => by
        obtain ⟨c, hc, hl, hk, hts⟩ := hs
        exact ⟨c, hIx c s T A B row hc hg' (fun r e => by have := hr r e; exact ⟨by omega, this.2⟩), keep hg' (fun r e => (hr r e).1) (by omega) hl, keep hg' (fun r e => (hr r e).1) (by omega) hk, hts⟩)
      ?_ ⟨hI1, hL1, hK1, fun r h => h.elim, fun y hy => by cases hy⟩).mono ?_
    · rintro pre T x W ⟨hi, hl, hk, hTs, hvs⟩ hT hgv hlen hokx
      have hy := run_yield (P := P) (args := encs x) hl (by rw [hrec]; exact hps x)
      rw [hrec] at hy
      have hT2 : ∀ r, T r → w.heap.size ≤ r ∧ r < W.heap.size := fun r h => ⟨by have := hTs r h; omega, (hT r h).2⟩
      have hgv2 : ∀ y ∈ pre ++ [x], ∀ r, gv y r → w.heap.size + 2 ≤ r := fun y hy r h => by have := hgv y hy r h; omega
      have hlM : ¬ (M (w.heap.size + 1) ∨ T (w.heap.size + 1)) := by
        rintro (h | h)
        · have := hM _ h; omega
        · have := hTs _ h; omega
      have hDM : ¬ (M w.heap.size ∨ T w.heap.size) := by
        rintro (h | h)
        · have := hM _ h; omega
        · have := hTs _ h; omega
      refine ⟨fn, _, assign, body, hy, roundIn_of_wpIn hfn (wpIn_mono (hassign _ pre T x W hi hT2 hlen hokx (fun y hy r h => by have := hgv2 y hy r h; omega)) ?_)⟩
      rintro e a2 W2 hp
      cases e with
      | normal =>
        obtain ⟨ko, hx⟩ := hp
        have hl2 := ko.obj hlM hl
        have hk2 := ko.obj hDM hk
        have hlt : w.heap.size + 1 < W2.heap.size := (Array.getElem?_eq_some_iff.1 hl2).1
        have hl3 : (W2.putObj (w.heap.size + 1) (.loop { rec .ready none with state := .busy })).heap[w.heap.size + 1]? = some (.loop { rec .ready none with state := .busy }) := World.putObj_heap_same hlt
        have hk3 : (W2.putObj (w.heap.size + 1) (.loop { rec .ready none with state := .busy })).heap[w.heap.size]? = some (.deferred (some [])) := (World.putObj_heap_other (by omega)).trans hk2
        refine ⟨_, run_beginRound hl2 (by rw [hrec]), ?_⟩
        refine wpIn_mono (hbody _ pre T x a2 _ (hAx pre T x a2 _ _ _ _ (by omega) (fun h => hlM (.inr h)) (fun y hy h => by have := hgv2 y hy _ h; omega) hl2 rfl hx) (fun r h => ⟨(hT2 r h).1, by rw [World.putObj_size]; exact Nat.lt_of_lt_of_le (hT2 r h).2 ko.size⟩) hlen) ?_
        have st : Lie (fun k => M k ∨ T k ∨ k = w.heap.size + 1) W (W2.putObj (w.heap.size + 1) (.loop { rec .ready none with state := .busy })) :=
          (ko.mono (fun k _ h => by rcases h with h | h; exact .inl h; exact .inr (.inl h))).trans (Lie.putObj _ _ _ (.inr (.inr rfl)))
        have fin : ∀ (jump : Option Code) (W3 : World), Lie (fun k => M k ∨ T k) (W2.putObj (w.heap.size + 1) (.loop { rec .ready none with state := .busy })) W3 →
            (Instr.endRound (w.heap.size + 1) jump).run P W3 = .ok (.bool jump.isNone) (W3.putObj (w.heap.size + 1) (.loop (rec (if jump.isNone then .ready else .done) jump))) ∧
            (W3.putObj (w.heap.size + 1) (.loop (rec (if jump.isNone then .ready else .done) jump))).heap[w.heap.size + 1]? = some (.loop (rec (if jump.isNone then .ready else .done) jump)) ∧
            (W3.putObj (w.heap.size + 1) (.loop (rec (if jump.isNone then .ready else .done) jump))).heap[w.heap.size]? = some (.deferred (some [])) ∧
            Lie (fun k => M k ∨ T k ∨ k = w.heap.size + 1) W (W3.putObj (w.heap.size + 1) (.loop (rec (if jump.isNone then .ready else .done) jump))) := fun jump W3 hk4 => by
          have hl4 := hk4.obj hlM hl3
          have := run_endRound (P := P) jump hl4
          rw [hrec] at this ⊢
          refine ⟨this, World.putObj_heap_same (Array.getElem?_eq_some_iff.1 hl4).1, (World.putObj_heap_other (by omega)).trans (hk4.obj hDM hk3), ?_⟩
          rw [hrec] at st
          rw [hrec] at hk4
          exact (st.trans (hk4.mono (fun k _ h => by rcases h with h | h; exact .inl h; exact .inr (.inl h)))).trans (Lie.putObj _ _ _ (.inr (.inr rfl)))
        have hsW : W.heap.size ≤ (W2.putObj (w.heap.size + 1) (.loop { rec .ready none with state := .busy })).heap.size := by rw [World.putObj_size]; exact ko.size
        have hTr : ∀ T' : Nat → Prop, (∀ r, T' r → T r ∨ (W2.putObj (w.heap.size + 1) (.loop { rec .ready none with state := .busy })).heap.size ≤ r) → ∀ r, T' r → w.heap.size + 2 ≤ r := fun T' h r hr => by
          rcases h r hr with h | h
          · exact hTs r h
          · have := ko.size
            rw [World.putObj_size] at h
            have : W1.heap.size ≤ W.heap.size ∨ True := .inr trivial
            have := (Array.getElem?_eq_some_iff.1 hl2).1
            omega
        rintro e a3 W3 hp
        cases e with
        | normal =>
          obtain ⟨T', t1, t2, hk4, hi3⟩ := hp
          obtain ⟨hr, hl4, hk5, hli⟩ := fin none W3 hk4
          have ht := hTr T' t1
          exact ⟨_, _, hr, T', fun r h => (t1 r h).imp id (Nat.le_trans hsW), fun r h => by rw [World.putObj_size]; exact t2 r h, hli, .inl ⟨rfl, putI hI _ hi3 ht hgv2, hl4, hk5, ht, hgv2⟩⟩
        | ret =>
          obtain ⟨T', t1, t2, hk4, hi3⟩ := hp
          obtain ⟨hr, hl4, hk5, hli⟩ := fin (some .ret) W3 hk4
          have ht := hTr T' t1
          exact ⟨_, _, hr, T', fun r h => (t1 r h).imp id (Nat.le_trans hsW), fun r h => by rw [World.putObj_size]; exact t2 r h, hli, .inr ⟨rfl, .ret, putI (hIx _) _ hi3 ht hgv2, hl4, hk5, ht, hgv2⟩⟩
        | exit id =>
          obtain ⟨T', t1, t2, hk4, hi3⟩ := hp
          obtain ⟨hr, hl4, hk5, hli⟩ := fin (some (.exit id)) W3 hk4
          have ht := hTr T' t1
          exact ⟨_, _, hr, T', fun r h => (t1 r h).imp (fun h => h) (Nat.le_trans hsW), fun r h => by rw [World.putObj_size]; exact t2 r h, hli, .inr ⟨rfl, .exit id, putI (hIx _) _ hi3 ht hgv2, hl4, hk5, ht, hgv2⟩⟩
        | goto t =>
          obtain ⟨T', t1, t2, hk4, hi3⟩ := hp
          obtain ⟨hr, hl4, hk5, hli⟩ := fin (some (.goto t)) W3 hk4
          have ht := hTr T' t1
          exact ⟨_, _, hr, T', fun r h => (t1 r h).imp id (Nat.le_trans hsW), fun r h => by rw [World.putObj_size]; exact t2 r h, hli, .inr ⟨rfl, .goto t, putI (hIx _) _ hi3 ht hgv2, hl4, hk5, ht, hgv2⟩⟩
        | panic ch => exact hp.elim
        | outgrown => exact hp.elim
      | _ => exact hp.elim
    · rintro e W2 ⟨⟨v, rfl⟩, (⟨xs, T, hS, hi, hl, hk, ht, hv⟩ | ⟨pre, T, hSp, c, hi, hl, hk, ht, hv⟩)⟩
      · exact ⟨none, _, by have := run_endLoop (P := P) hl (by rw [hrec]; simp); rw [hrec] at this; exact this, hdone _ xs T _ hS (putI hI _ hi ht hv) rfl ((World.putObj_heap_other (by omega)).trans hk)⟩
      · exact ⟨some c, _, by have := run_endLoop (P := P) hl (by rw [hrec]; simp); rw [hrec] at this; exact this, hstop _ c pre T _ hSp (putI (hIx c) _ hi ht hv) rfl ((World.putObj_heap_other (by omega)).trans hk)⟩

theorem wpIn_world {c : Code} {Q : Exit → Act → World → Prop} {a : Act} {w : World} (h : ∀ W, W = w → c.wpIn F n P Q a W) : c.wpIn F n P Q a w := h w rfl
/-! A drawn region of quiet operations, in a round. -/
section
variable {ops : Array Oper} {md : Region.Mode} {C : World → Prop}
theorem inRound_of_quiet {l : Nat} {o : Oper} {a : Act} {w : World} {K : Act → Prop} {K' : Act → World → Prop} {Q : Exit → Act → World → Prop} (hd : ∀ c, o.op ≠ .defer c) (hw : C w) (h : ∀ a w', C w' → K a → K' a w') (hh : o.quiet P a C K) : o.wpIn (Fence.wide.inRound l) n P a w K' Q := by
  obtain ⟨v, h1, h2⟩ := hh
  have h3 := h1 w hw
  unfold Oper.quietAt at h3
  unfold Oper.wpIn
  refine ⟨fun _ _ => trivial, ?_⟩
  rw [Oper.semAt_eq _ _ _ hd]
  generalize (execOp a.eval o).run P w = r at *
  cases r with
  | ok nx w' =>
    cases nx <;> simp only [Oper.quietUpon] at h3 <;> simp only [Oper.uponIn]
    case value u =>
      obtain ⟨e1, e2⟩ := h3
      rw [e1, e2]
      exact h _ _ hw h2
    case skip =>
      obtain ⟨e1, e2⟩ := h3
      rw [e1, ← e2]
      exact h _ _ hw h2
    case enter f args =>
      obtain ⟨e1, hc⟩ := h3
      rw [e1]
      exact ⟨fun hh => (by cases hh), (callsIn_wide.2 (hc.mono fun e w'' ⟨he, hw''⟩ => by subst he; exact h _ _ hw'' h2)).inRound l⟩
  | halt x w' => simp only [Oper.quietUpon] at h3
theorem inRound_op {l : Nat} {i : Nat} {a : Act} {K : Act → Prop} {K' : Act → World → Prop} {Q' : Exit → Act → World → Prop} {w : World} (hd : ∀ o ∈ ops, ∀ c, o.op ≠ .defer c) (hC : C w) (h : ∀ a w', C w' → K a → K' a w') (hh : qOp P ops C i K a) : wpOpIn (Fence.wide.inRound l) n P ops Q' i K' a w := by
  unfold qOp at hh
  unfold wpOpIn
  split
  · rename_i ho; simp only [ho] at hh; exact h _ _ hC hh
  · rename_i o ho
    simp only [ho] at hh
    split
    · rename_i hw
      simp only [hw, if_true] at hh
      exact inRound_of_quiet (hd o (Array.mem_of_getElem? ho)) hC h hh
    · rename_i hw
      simp only [hw] at hh
      exact ⟨fun _ _ => trivial, h _ _ hC hh⟩
theorem inRound_any {l : Nat} {Q : Act → Prop} {Q' : Exit → Act → World → Prop} (hd : ∀ o ∈ ops, ∀ c, o.op ≠ .defer c) (hQ : ∀ a w, C w → Q a → Q' .normal a w) : ∀ (fuel : Nat) (listed : Array Bool) (a : Act) (w : World), C w →
    wpAnyQ P md ops C Q fuel listed a → wpAnyIn (Fence.wide.inRound l) n P md ops Q' fuel listed a w
  | 0, _, _, _, hw, h => ⟨h.1, hQ _ _ hw h.2⟩
  | fuel + 1, _, _, _, hw, h => ⟨fun h0 => hQ _ _ hw (h.1 h0), fun i hi => inRound_op hd hw (fun a' w' hw' => inRound_any hd hQ fuel _ a' w' hw') (h.2 i hi)⟩
theorem region_all_round {r : Nat} {id : Nat} {Q : Exit → Act → World → Prop} {a : Act} {w : World} {l : List Oper} (w0 : World) (hm : P.follows .mixedOrders = true) (hB : Region.lexB .any l.toArray = true)
    (hd : ∀ o ∈ l, ∀ c, o.op ≠ .defer c) (hw : Below w0.heap.size w0 w)
    (h : (∀ (x : Grew w) (b o : Nat), b < w.heap.size → x.val.cell? ⟨b, o, none⟩ = w.cell? ⟨b, o, none⟩) → Hid (∀ x : Grew w, Below w0.heap.size w0 x.val) →
      wpQuiet P l.toArray (fun w' => ∃ x : Grew w, w' = x.val) (fun a' => ∀ W1, Below w.heap.size w W1 → Below w0.heap.size w0 W1 → w.heap.size ≤ W1.heap.size → Q .normal a' W1) l a) : (Code.region id l.toArray true).wpIn (Fence.wide.inRound r) n P Q a w := by
  have h := h (fun x => x.cell) (fun x => via hw x.ok)
  simp only [Region.lexB, Bool.and_eq_true] at hB
  refine wpIn_region_any hm (inRound_any (C := fun w' => ∃ x : Grew w, w' = x.val) (Q := fun a' => ∀ W1, Below w.heap.size w W1 → Below w0.heap.size w0 W1 → w.heap.size ≤ W1.heap.size → Q .normal a' W1) (by simpa using hd) (fun a' w' hw' h => ?_) _ _ _ _ ⟨⟨_, (Below.refl _ w).drew⟩, rfl⟩ ?_)
  · obtain ⟨x, rfl⟩ := hw'
    exact h x.val x.ok (via hw x.ok) x.ok.size
  · have := wpAnyQ_lex (C := fun w' => ∃ x : Grew w, w' = x.val) (md := .any) hB.1 l.toArray.toList 0 (Array.replicate l.toArray.size false) a (by simp) (by simpa using hB.2) (by simpa using h)
    simpa using this
end
/-- A call of a function value. -/
theorem wpListIn_callv {ops : Array Oper} {rest : List Oper} {o : Oper} {a : Act} {Q : Exit → Act → World → Prop} {w : World} (hgd : o.guard = none) (fv x y : Operand) {ts : Array TypeId} {g : Nat} {first caps : Array Value} {X Y v : Value} {R : World → Prop}
    (ho : o.op = .call { callee := .value fv, args := #[x, y], argTypes := ts }) (hf : a.eval fv = .func (.func g) first caps) (hx : a.eval x = X) (hy : a.eval y = Y)
    (eg : ∀ args w, (callFunc g args).run P w = .ok (.enter g args) w) (hF : ∀ f, F.fn f) (hn : F.depth.isSome = true → 1 ≤ n)
    (hc : CallsIn F (n - 1) P g (first ++ #[X, Y] ++ caps) w fun e w' => e = .returned v ∧ R w')
    (hK : ∀ w', R w' → wpListIn F n P ops Q rest (a.put o.dst v) w') : wpListIn F n P ops Q (o :: rest) a w := by
  refine wpListIn_plain hgd fun K hK' => ?_
  unfold Oper.wpIn
  refine ⟨fun f _ => hF f, ?_⟩
  rw [Oper.semAt_plain F _ _ (by rw [ho]; intro c hc'; cases hc')]
  have hr : (execOp a.eval o).run P w = .ok (.enter g (first ++ #[X, Y] ++ caps)) w := by
    unfold execOp
    rw [ho]
    simp [resolve, invoke, hf, hx, hy, eg, Sem.run_bind, Deferred.ofValue, Result.andThen]
  rw [hr]
  refine ⟨hn, hc.mono ?_⟩
  rintro e w' ⟨rfl, hR⟩
  exact hK' _ _ (hK w' hR)
theorem wpListIn_app {ops : Array Oper} {rest : List Oper} {o : Oper} {a : Act} {Q : Exit → Act → World → Prop} {w w' : World} (hgd : o.guard = none) (s y : Operand) (t : TypeId) {v1 v2 v' : Value}
    (ho : o.op = .call { callee := .builtin .append, args := #[s, y], argTypes := #[t, t] }) (hs : a.eval s = v1) (hy : a.eval y = v2) (hr : (Builtin.append_ #[t, t] o.type #[v1, v2]).run P w = .ok v' w')
    (h : wpListIn F n P ops Q rest (a.put o.dst v') w') : wpListIn F n P ops Q (o :: rest) a w := by
  refine wpListIn_plain hgd fun K hK => ?_
  unfold Oper.wpIn
  refine ⟨by simp [Oper.about, ho, resolve, Target.leads, Sem.run_pure], ?_⟩
  rw [Oper.semAt_plain F _ _ (by rw [ho]; intro c hc'; cases hc')]
  simp [execOp, ho, resolve, invoke, builtin, hs, hy, hr, Result.andThen]
  exact hK _ _ h
end Go.Proofs

set_option linter.unusedSimpArgs false
set_option linter.unusedVariables false
namespace Go.Proofs
open Go.RowKit
attribute [local go_sem] Oper.semAt_some

/-! The iterator over choices. -/
structure ChV where
  b : Nat
  l : List Nat
def encC (x : ChV) : Array Value := #[.slice (some ⟨x.b, 0, none⟩) x.l.length x.l.length]
def natZ (l : List Nat) : List Int := l.map fun (a : Nat) => (a : Int)
def gvN {α : Type} (_ : α) (_ : Nat) : Prop := False
theorem natZ_len (l : List Nat) : (natZ l).length = l.length := by simp [natZ]
theorem natZ_get {l : List Nat} {k x : Nat} (h : l[k]? = some x) : (natZ l)[k]? = some (x : Int) := by simp [natZ, h]
theorem natZ_set (l : List Nat) (k x : Nat) : (natZ l).set k (x : Int) = natZ (l.set k x) := by simp [natZ, List.map_set]
theorem IntsAt.grown {T : TypeId} {W W' : World} {B : Nat} {l : List Int} (h : IntsAt T W B l) {M : Nat → Prop} (hl : Lie M W W') (hB : ¬ M B) : IntsAt T W' B l := hl.obj hB h
theorem grown_below_none {W W' : World} (hb : Below W.heap.size W W') : W.grownBy W' none := ⟨hb.os, hb.tape, hb.output, hb.size, fun k hk _ => hb.block k hk⟩
theorem grown_set (W : World) (B o : Nat) (v : Value) : W.grownBy (W.setCell ⟨B, o, none⟩ v) (some B) :=
  ⟨rfl, rfl, rfl, by simp, fun k hk hne => Below.heap_setCell W _ v k fun e => hne (by rw [e])⟩
/-- Between two yields. -/
structure ChI (n k : Nat) (M : Nat → Prop) (w : World) (J : List ChV → (Nat → Prop) → World → Prop) (W0 B B1 B2 : Nat) (i : Nat) (l : List Nat) (wr : World) (pre : List ChV) (T : Nat → Prop) : Prop where
  plen : pre.length = i
  pre_ : pre.map ChV.l = (cmb 0 n k).take i
  now : (cmb 0 n k)[i]? = some l
  mem : IntsAt 3 wr B (natZ l)
  jj : J pre T wr
  tt : ∀ r, T r → W0 ≤ r ∧ r < wr.heap.size ∧ r ≠ B
  c1 : wr.heap[B1]? = some (.cells #[.int .i64 k] 3 (0, 0))
  c2 : wr.heap[B2]? = some (.cells #[.int .i64 n] 3 (0, 0))
  sz : W0 ≤ B ∧ B < wr.heap.size
/-- The first part: the least choice. -/
def firstM (k j : Nat) : List Int := natZ (List.range' 0 j) ++ List.replicate (k - j) 0
theorem firstM_set {k j : Nat} (h : j < k) : (firstM k j).set j (j : Int) = firstM k (j + 1) := by
  unfold firstM
  rw [List.set_append_right _ _ (by simp [natZ]), List.range'_1_concat, show k - j = (k - (j + 1)) + 1 by omega, List.replicate_succ]
  simp [natZ]
theorem firstM_len {k j : Nat} (h : j ≤ k) : (firstM k j).length = k := by simp [firstM, natZ]; omega
theorem firstM_all (k : Nat) : firstM k k = natZ (List.range' 0 k) := by simp [firstM]
/-- The last part: the numbers behind the one that was raised. -/
def restM (l : List Nat) (a x q : Nat) : List Nat := l.take a ++ List.range' (x + 1) (q - a) ++ l.drop q
theorem restM_begin {l : List Nat} {a x : Nat} (h : a < l.length) : l.set a (x + 1) = restM l a x (a + 1) := by
  unfold restM
  rw [show a + 1 - a = 1 by omega]
  simp [List.set_eq_take_append_cons_drop, h]
theorem restM_step {l : List Nat} {a x q : Nat} (h : a < q) (hq : q < l.length) : (restM l a x q).set q (x + (q - a) + 1) = restM l a x (q + 1) := by
  unfold restM
  rw [List.append_assoc, List.set_append_right _ _ (by simp; omega), List.length_take, List.set_append_right _ _ (by simp; omega), List.length_range', show q - min a l.length - (q - a) = 0 by omega, List.drop_eq_getElem_cons hq, List.set_cons_zero,
    show q + 1 - a = (q - a) + 1 by omega, List.range'_1_concat]
  simp
  omega
theorem restM_len {l : List Nat} {a x q : Nat} (h : a < q) (hq : q ≤ l.length) : (restM l a x q).length = l.length := by simp [restM]; omega
theorem restM_get {l : List Nat} {a x q : Nat} (h : a < q) (hq : q ≤ l.length) : (restM l a x q)[q - 1]? = some (x + (q - a)) := by
  unfold restM
  rw [List.append_assoc, List.getElem?_append_right (by simp; omega), List.length_take, List.getElem?_append_left (by simp; omega)]
  rw [List.getElem?_range' (by omega)]
  congr 1
  omega
theorem restM_all {l : List Nat} {a x : Nat} : restM l a x l.length = l.take a ++ List.range' (x + 1) (l.length - a) := by simp [restM]
end Go.Proofs

set_option linter.unusedSimpArgs false
set_option linter.unusedVariables false
namespace Go.Proofs
open Go.RowKit

/-! A basis in memory. -/
def boolL (n : Nat) (z : List Nat) : List Value := (List.range n).map fun i => .bool (decide (i ∈ z))
def basC (pv ev zv tv : Value) (z t : List Nat) : List Value := pv :: ev :: zv :: tv :: (boolL 5 z ++ boolL 8 t)
theorem basC_len (pv ev zv tv : Value) (z t : List Nat) : (basC pv ev zv tv z t).length = 17 := rfl
theorem boolL_get (n k : Nat) (z : List Nat) (h : k < n) : (boolL n z)[k]? = some (.bool (decide (k ∈ z))) := by simp [boolL, List.getElem?_range h]
theorem basC_zero (pv ev zv tv : Value) (z t : List Nat) (k : Nat) (h : k < 5) : (basC pv ev zv tv z t)[4 + k]? = some (.bool (decide (k ∈ z))) := by
  rw [Nat.add_comm]
  show (boolL 5 z ++ boolL 8 t)[k]? = _
  rw [List.getElem?_append_left (by simp [boolL]; exact h), boolL_get 5 k z h]
theorem basC_tight (pv ev zv tv : Value) (z t : List Nat) (k : Nat) (h : k < 8) : (basC pv ev zv tv z t)[9 + k]? = some (.bool (decide (k ∈ t))) := by
  rw [Nat.add_comm, show k + 9 = (k + 5) + 4 by omega]
  show (boolL 5 z ++ boolL 8 t)[k + 5]? = _
  rw [List.getElem?_append_right (by simp [boolL]), show k + 5 - (boolL 5 z).length = k by simp [boolL], boolL_get 8 k t h]
theorem boolL_set (n x : Nat) (z : List Nat) (h : x < n) : (boolL n z).set x (.bool true) = boolL n (z ++ [x]) := by
  apply List.ext_getElem?
  intro j
  rw [List.getElem?_set]
  by_cases hj : j < n
  · rw [boolL_get n j _ hj, boolL_get n j _ hj]
    by_cases e : x = j
    · subst e
      simp [boolL, h]
    · rw [if_neg e]
      have : ¬ j = x := fun h => e h.symm
      simp [this]
  · have h1 : (boolL n z)[j]? = none := List.getElem?_eq_none (by simp [boolL]; omega)
    have h2 : (boolL n (z ++ [x]))[j]? = none := List.getElem?_eq_none (by simp [boolL]; omega)
    rw [h1, h2, if_neg (by omega)]
theorem basC_setz (pv ev zv tv : Value) (z t : List Nat) (x : Nat) (h : x < 5) : (basC pv ev zv tv z t).toArray.setIfInBounds (4 + x) (.bool true) = (basC pv ev zv tv (z ++ [x]) t).toArray := by
  rw [List.setIfInBounds_toArray, Nat.add_comm 4 x]
  congr 1
  show pv :: ev :: zv :: tv :: (boolL 5 z ++ boolL 8 t).set x (.bool true) = _
  rw [List.set_append_left _ _ (by simp [boolL]; exact h), boolL_set 5 x z h]
  rfl
theorem basC_sett (pv ev zv tv : Value) (z t : List Nat) (x : Nat) (h : x < 8) : (basC pv ev zv tv z t).toArray.setIfInBounds (9 + x) (.bool true) = (basC pv ev zv tv z (t ++ [x])).toArray := by
  rw [List.setIfInBounds_toArray, Nat.add_comm 9 x, show x + 9 = (x + 5) + 4 by omega]
  congr 1
  show pv :: ev :: zv :: tv :: (boolL 5 z ++ boolL 8 t).set (x + 5) (.bool true) = _
  rw [List.set_append_right _ _ (by simp [boolL]), show x + 5 - (boolL 5 z).length = x by simp [boolL], boolL_set 8 x t h]
  rfl
theorem basC_set2 (pv ev zv tv v : Value) (z t : List Nat) : (basC pv ev zv tv z t).toArray.setIfInBounds 2 v = (basC pv ev v tv z t).toArray := by simp [basC]
theorem basC_set3 (pv ev zv tv v : Value) (z t : List Nat) : (basC pv ev zv tv z t).toArray.setIfInBounds 3 v = (basC pv ev zv v z t).toArray := by simp [basC]
theorem bas_load {w : World} {b T : Nat} {cs : List Value} (h : w.heap[b]? = some (.cells cs.toArray T (0, 0))) {k : Nat} {v : Value} (hv : cs[k]? = some v) : w.cell? ⟨b, k, none⟩ = some v := by
  unfold World.cell?
  simp only [h]
  simpa using hv
theorem bas_frozen {w : World} {b T : Nat} {cs : List Value} (h : w.heap[b]? = some (.cells cs.toArray T (0, 0))) (k : Nat) : w.frozen? ⟨b, k, none⟩ = false := by
  unfold World.frozen?
  simp only [h]
  simp
/-- The first cells. -/
theorem bas4 {w : World} {b : Nat} {pv ev zv tv : Value} {z t : List Nat} (h : w.heap[b]? = some (.cells (basC pv ev zv tv z t).toArray 160 (0, 0))) :
    w.cell? ⟨b, 0, none⟩ = some pv ∧ w.cell? ⟨b, 1, none⟩ = some ev ∧ w.cell? ⟨b, 2, none⟩ = some zv ∧ w.cell? ⟨b, 3, none⟩ = some tv ∧ w.frozen? ⟨b, 2, none⟩ = false ∧ w.frozen? ⟨b, 3, none⟩ = false ∧ b < w.heap.size :=
  ⟨bas_load h rfl, bas_load h rfl, bas_load h rfl, bas_load h rfl, bas_frozen h 2, bas_frozen h 3, bk_size h⟩
theorem zerosL_snoc (np : Nat) (l : List Nat) (x : Nat) : zerosL np (l ++ [x]) = if x < np then zerosL np l ++ [x] else zerosL np l := by
  unfold zerosL
  rw [List.filter_append]
  by_cases h : x < np <;> simp [h]
theorem tightL_snoc (np : Nat) (l : List Nat) (x : Nat) : tightL np (l ++ [x]) = if x < np then tightL np l else tightL np l ++ [x - np] := by
  unfold tightL
  rw [List.filter_append]
  by_cases h : x < np
  · have : ¬ np ≤ x := by omega
    simp [h, this]
  · have : np ≤ x := by omega
    simp [h, this]
/-- What is made of the numbers so far. -/
structure BasI (base bb : Nat) (pv ev : Value) (z t : List Nat) (zv tv : Value) (wr : World) : Prop where
  blk : wr.heap[bb]? = some (.cells (basC pv ev zv tv z t).toArray 160 (0, 0))
  oz : wr.ownsRow base 3 1 zv z.length ((natZ z).map (Value.int .i64))
  ot : wr.ownsRow base 3 1 tv t.length ((natZ t).map (Value.int .i64))
  ap : ∀ g, zv.ownBlock = some g → tv.ownBlock ≠ some g
end Go.Proofs
