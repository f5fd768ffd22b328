import Derived.Test.YtpmliaildjomeaaGreatDoorMg13
import Derived.Test.YtpmliaildjomeaaGreatDoorMg25
import Derived.Test.YtpmliaildjomeaaGreatDoorMg28
set_option linter.unusedSimpArgs false
set_option linter.unusedVariables false
namespace Go.Proofs
open Go.RowKit

/-! The law of ranges over a function whose iterator keeps state in cells that were there ahead of the range (blocks O). -/
/-- What is said abides whatever happens to blocks from 'B' on, but those of 'T' and those that were given away. -/
def AbideO {α : Type} (gv : α → Nat → Prop) (O : Nat → Prop) (B : Nat) (J : List α → (Nat → Prop) → World → Prop) : Prop :=
  ∀ s T W W' row, J s T W → W.grownBy W' row → (∀ r, row = some r → (B ≤ r ∨ O r) ∧ ¬ T r ∧ ∀ x ∈ s, ¬ gv x r) → J s T W'
/-- AN ITERATOR's CONTRACT. -/
def StopsO {α : Type} (F : Fence) (n : Nat) (P : Program) (g : Nat) (lb : Array Value) (encs : α → Array Value) (gv : α → Nat → Prop) (O M : Nat → Prop) (Ok : List α → α → World → Prop) (S Sp : List α → Prop) (N : Nat) (w : World) : Prop :=
  ∀ (l : Nat) (J Jx : List α → (Nat → Prop) → World → Prop) (W : World), Below w.heap.size w W → w.heap.size ≤ l → l < W.heap.size → AbideO gv O W.heap.size J → AbideO gv O W.heap.size Jx →
    (∀ pre T x W1, J pre T W1 → (∀ r, T r → W.heap.size ≤ r ∧ r < W1.heap.size) → (∀ y ∈ pre ++ [x], ∀ r, gv y r → W.heap.size ≤ r) → pre.length < N → Ok pre x W1 → YieldAt F (n - 1) P l (encs x) W1 fun e W' =>
      ∃ T', (∀ r, T' r → T r ∨ W1.heap.size ≤ r) ∧ (∀ r, T' r → r < W'.heap.size) ∧ Lie (fun k => M k ∨ T k ∨ k = l) W1 W' ∧
        ((e = .returned (.bool true) ∧ J (pre ++ [x]) T' W') ∨ (e = .returned (.bool false) ∧ Jx (pre ++ [x]) T' W'))) →
    J [] (fun _ => False) W →
    CallsIn F n P g (#[.func (.yield l) #[] #[]] ++ lb) W fun e W' => (∃ v, e = .returned v) ∧ ((∃ xs T, S xs ∧ J xs T W') ∨ (∃ pre T, Sp pre ∧ Jx pre T W'))

variable {F : Fence} {n : Nat} {P : Program}
theorem wp_rangeO {α : Type} {g : Operand} {ps : Array Tmp} {assign body : Code} {Q : Exit → Act → World → Prop} {a : Act} {w : World}
    (hro : F.round = none) (h1 : 1 ≤ n) {gf : Nat} {lb : Array Value} (hg : a.eval g = .func (.func gf) #[] lb) (hFg : F.fn gf) (eg : ∀ args w, (callFunc gf args).run P w = .ok (.enter gf args) w)
    {encs : α → Array Value} {gv : α → Nat → Prop} {O M : Nat → Prop} {Ok : List α → α → World → Prop} {S Sp : List α → Prop} {N : Nat} (hseq : StopsO F (n - 1) P gf lb encs gv O M Ok S Sp N w) (hM : ∀ k, M k → k < w.heap.size) (hOw : ∀ k, O k → k < w.heap.size)
    (hps : ∀ x, (encs x).size = ps.size)
    (I : List α → (Nat → Prop) → World → Prop) (Ix : Code → List α → (Nat → Prop) → World → Prop) (Ax : List α → (Nat → Prop) → α → Act → World → Prop)
    (hI : AbideO gv O w.heap.size I) (hIx : ∀ c, AbideO gv O w.heap.size (Ix c))
    (hAx : ∀ pre T x a (W : World) (l : Nat) (o o' : Obj), w.heap.size ≤ l → ¬ T l → (∀ y ∈ pre ++ [x], ¬ gv y l) → W.heap[l]? = some o → o.isCells = false → Ax pre T x a W → Ax pre T x a (W.putObj l o')) (h0 : I [] (fun _ => False) w)
    (hassign : ∀ (l : Nat) (pre : List α) (T : Nat → Prop) (x : α) (W : World), I pre T W → (∀ r, T r → w.heap.size ≤ r ∧ r < W.heap.size) → pre.length < N → Ok pre x W → (∀ y ∈ pre ++ [x], ∀ r, gv y r → w.heap.size ≤ r) →
      assign.wpIn (F.inRound l) (n - 1 - 1) P (Exit.then (fun a₁ W₁ => Lie (fun k => M k ∨ T k) W W₁ ∧ Ax pre T x a₁ W₁) (fun _ _ _ => False)) { tmps := (ps.zip (encs x)).foldl (fun t (p, v) => t.setIfInBounds p v) a.tmps, defers := [] } W)
    (hbody : ∀ (l : Nat) (pre : List α) (T : Nat → Prop) (x : α) (a₁ : Act) (W : World), Ax pre T x a₁ W → (∀ r, T r → w.heap.size ≤ r ∧ r < W.heap.size) → pre.length < N → body.wpIn (F.inRound l) (n - 1 - 1) P (outW M T I Ix (pre ++ [x]) W) a₁ W)
    (hdone : ∀ (D : Nat) (xs : List α) (T : Nat → Prop) (W : World), S xs → I xs T W → D = w.heap.size → W.heap[D]? = some (.deferred (some [])) → Q .normal { a with defers := { target := .collected D, args := #[] } :: a.defers } W)
    (hstop : ∀ (D : Nat) (c : Code) (pre : List α) (T : Nat → Prop) (W : World), Sp pre → Ix c pre T W → D = w.heap.size → W.heap[D]? = some (.deferred (some [])) → c.wpIn F n P Q { a with defers := { target := .collected D, args := #[] } :: a.defers } W) :
    (Code.rangeFunc g ps assign body).wpIn F n P Q a w := by
  refine wpIn_rangeFunc ?_
  intro fn hfn
  rw [hro]
  obtain ⟨rec, hrec⟩ : ∃ rec : LoopState → Option Code → Loop, rec = fun st pe => { state := st, pending := pe, fn, tmps := a.tmps, params := ps, assign, body, defers := w.heap.size } := ⟨_, rfl⟩
  obtain ⟨W1, hW1⟩ : ∃ W1, (w.alloc (.deferred (some []))).alloc (.loop (rec .ready none)) = W1 := ⟨_, rfl⟩
  have hsz1 : W1.heap.size = w.heap.size + 2 := by rw [← hW1]; simp
  have hL1 : W1.heap[w.heap.size + 1]? = some (.loop (rec .ready none)) := by
    rw [← hW1]; have := World.alloc_heap_new (w.alloc (.deferred (some []))) (.loop (rec .ready none)); rwa [World.size_alloc] at this
  have hK1 : W1.heap[w.heap.size]? = some (.deferred (some [])) := by
    rw [← hW1]; exact (Below.heap_alloc _ _ _ (by simp)).trans (World.alloc_heap_new w _)
  have hI1 : I [] (fun _ => False) W1 := by
    rw [← hW1]
    refine hI _ _ _ _ none (hI _ _ _ _ none h0 (World.grownBy_alloc w _ none) (fun r e => by cases e)) (World.grownBy_alloc _ _ none) (fun r e => by cases e)
  have hb1 : Below w.heap.size w W1 := by
    rw [← hW1]; exact ((Below.refl _ w).alloc (Nat.le_refl _) _).alloc (by simp) _
  refine ⟨w.heap.size + 1, [{ target := .collected w.heap.size, args := #[] }], W1, { target := .fn (.func gf) lb, args := #[.func (.yield (w.heap.size + 1)) #[] #[]] }, W1, gf,
    #[.func (.yield (w.heap.size + 1)) #[] #[]] ++ lb, W1, ?_, ?_, ?_, ?_, fun _ => h1, ?_⟩
  · rw [← hW1, hrec]; exact run_enterLoop_outer _ _ _ _ _
  · simp only [resolve, hg]
    simp [go_sem]
  · intro f' hf'; simp [Target.leads] at hf'; subst hf'; exact hFg
  · simp [invoke, go_sem, eg]
  · have keep : ∀ {A B : World} {row : Option Nat} {k : Nat} {o : Obj}, A.grownBy B row → (∀ r, row = some r → W1.heap.size ≤ r ∨ O r) → k < w.heap.size + 2 → w.heap.size ≤ k → A.heap[k]? = some o → B.heap[k]? = some o := fun hg' hr hk hk2 ho => by
      rw [hg'.block _ (Array.getElem?_eq_some_iff.1 ho).1 (fun e => by
        rcases hr _ e.symm with h | h
        · omega
        · have := hOw _ h
          omega), ho]
    have putI : ∀ {K : List α → (Nat → Prop) → World → Prop}, AbideO gv O w.heap.size K → ∀ {s T W} (o : Obj), K s T W → (∀ r, T r → w.heap.size + 2 ≤ r) → (∀ y ∈ s, ∀ r, gv y r → w.heap.size + 2 ≤ r) → K s T (W.putObj (w.heap.size + 1) o) := fun hK s T W o hs ht hv =>
      hK _ _ _ _ _ hs (grownBy_putObj' W _ o) fun r e => by
        cases e
        exact ⟨.inl (by omega), fun h => by have := ht _ h; omega, fun y hy h => by have := hv y hy _ h; omega⟩
    refine (hseq (w.heap.size + 1)
      (fun pre T W => I pre T W ∧ W.heap[w.heap.size + 1]? = some (.loop (rec .ready none)) ∧ W.heap[w.heap.size]? = some (.deferred (some [])) ∧ (∀ r, T r → w.heap.size + 2 ≤ r) ∧ (∀ y ∈ pre, ∀ r, gv y r → w.heap.size + 2 ≤ r))
      (fun pre T W => ∃ c, Ix c pre T W ∧ W.heap[w.heap.size + 1]? = some (.loop (rec .done (some c))) ∧ W.heap[w.heap.size]? = some (.deferred (some [])) ∧ (∀ r, T r → w.heap.size + 2 ≤ r) ∧ (∀ y ∈ pre, ∀ r, gv y r → w.heap.size + 2 ≤ r))
      W1 hb1 (by omega) (by omega)
      (fun s T A B row hs hg' hr => ⟨hI s T A B row hs.1 hg' (fun r e => by have := hr r e; exact ⟨this.1.imp (fun h => by omega) id, this.2⟩), keep hg' (fun r e => (hr r e).1) (by omega) (by omega) hs.2.1, keep hg' (fun r e => (hr r e).1) (by omega) (by omega) hs.2.2.1, hs.2.2.2⟩)
      (fun s T A B row hs hg' hr => by
        obtain ⟨c, hc, hl, hk, hts⟩ := hs
        exact ⟨c, hIx c s T A B row hc hg' (fun r e => by have := hr r e; exact ⟨this.1.imp (fun h => by omega) id, this.2⟩), keep hg' (fun r e => (hr r e).1) (by omega) (by omega) hl, keep hg' (fun r e => (hr r e).1) (by omega) (by omega) hk, hts⟩)
      ?_ ⟨hI1, hL1, hK1, fun r h => h.elim, fun y hy => by cases hy⟩).mono ?_
    · rintro pre T x W ⟨hi, hl, hk, hTs, hvs⟩ hT hgv hlen hokx
      have hy := run_yield (P := P) (args := encs x) hl (by rw [hrec]; exact hps x)
      rw [hrec] at hy
      have hT2 : ∀ r, T r → w.heap.size ≤ r ∧ r < W.heap.size := fun r h => ⟨by have := hTs r h; omega, (hT r h).2⟩
      have hgv2 : ∀ y ∈ pre ++ [x], ∀ r, gv y r → w.heap.size + 2 ≤ r := fun y hy r h => by have := hgv y hy r h; omega
      have hlM : ¬ (M (w.heap.size + 1) ∨ T (w.heap.size + 1)) := by
        rintro (h | h)
        · have := hM _ h; omega
        · have := hTs _ h; omega
      have hDM : ¬ (M w.heap.size ∨ T w.heap.size) := by
        rintro (h | h)
        · have := hM _ h; omega
        · have := hTs _ h; omega
      refine ⟨fn, _, assign, body, hy, roundIn_of_wpIn hfn (wpIn_mono (hassign _ pre T x W hi hT2 hlen hokx (fun y hy r h => by have := hgv2 y hy r h; omega)) ?_)⟩
      rintro e a2 W2 hp
      cases e with
      | normal =>
        obtain ⟨ko, hx⟩ := hp
        have hl2 := ko.obj hlM hl
        have hk2 := ko.obj hDM hk
        have hlt : w.heap.size + 1 < W2.heap.size := (Array.getElem?_eq_some_iff.1 hl2).1
        have hl3 : (W2.putObj (w.heap.size + 1) (.loop { rec .ready none with state := .busy })).heap[w.heap.size + 1]? = some (.loop { rec .ready none with state := .busy }) := World.putObj_heap_same hlt
        have hk3 : (W2.putObj (w.heap.size + 1) (.loop { rec .ready none with state := .busy })).heap[w.heap.size]? = some (.deferred (some [])) := (World.putObj_heap_other (by omega)).trans hk2
        refine ⟨_, run_beginRound hl2 (by rw [hrec]), ?_⟩
        refine wpIn_mono (hbody _ pre T x a2 _ (hAx pre T x a2 _ _ _ _ (by omega) (fun h => hlM (.inr h)) (fun y hy h => by have := hgv2 y hy _ h; omega) hl2 rfl hx) (fun r h => ⟨(hT2 r h).1, by rw [World.putObj_size]; exact Nat.lt_of_lt_of_le (hT2 r h).2 ko.size⟩) hlen) ?_
        have st : Lie (fun k => M k ∨ T k ∨ k = w.heap.size + 1) W (W2.putObj (w.heap.size + 1) (.loop { rec .ready none with state := .busy })) :=
          (ko.mono (fun k _ h => by rcases h with h | h; exact .inl h; exact .inr (.inl h))).trans (Lie.putObj _ _ _ (.inr (.inr rfl)))
        have fin : ∀ (jump : Option Code) (W3 : World), Lie (fun k => M k ∨ T k) (W2.putObj (w.heap.size + 1) (.loop { rec .ready none with state := .busy })) W3 →
            (Instr.endRound (w.heap.size + 1) jump).run P W3 = .ok (.bool jump.isNone) (W3.putObj (w.heap.size + 1) (.loop (rec (if jump.isNone then .ready else .done) jump))) ∧
            (W3.putObj (w.heap.size + 1) (.loop (rec (if jump.isNone then .ready else .done) jump))).heap[w.heap.size + 1]? = some (.loop (rec (if jump.isNone then .ready else .done) jump)) ∧
            (W3.putObj (w.heap.size + 1) (.loop (rec (if jump.isNone then .ready else .done) jump))).heap[w.heap.size]? = some (.deferred (some [])) ∧
            Lie (fun k => M k ∨ T k ∨ k = w.heap.size + 1) W (W3.putObj (w.heap.size + 1) (.loop (rec (if jump.isNone then .ready else .done) jump))) := fun jump W3 hk4 => by
          have hl4 := hk4.obj hlM hl3
          have := run_endRound (P := P) jump hl4
          rw [hrec] at this ⊢
          refine ⟨this, World.putObj_heap_same (Array.getElem?_eq_some_iff.1 hl4).1, (World.putObj_heap_other (by omega)).trans (hk4.obj hDM hk3), ?_⟩
          rw [hrec] at st
          rw [hrec] at hk4
          exact (st.trans (hk4.mono (fun k _ h => by rcases h with h | h; exact .inl h; exact .inr (.inl h)))).trans (Lie.putObj _ _ _ (.inr (.inr rfl)))
        have hsW : W.heap.size ≤ (W2.putObj (w.heap.size + 1) (.loop { rec .ready none with state := .busy })).heap.size := by rw [World.putObj_size]; exact ko.size
        have hTr : ∀ T' : Nat → Prop, (∀ r, T' r → T r ∨ (W2.putObj (w.heap.size + 1) (.loop { rec .ready none with state := .busy })).heap.size ≤ r) → ∀ r, T' r → w.heap.size + 2 ≤ r := fun T' h r hr => by
          rcases h r hr with h | h
          · exact hTs r h
          · have := ko.size
            rw [World.putObj_size] at h
            have : W1.heap.size ≤ W.heap.size ∨ True := .inr trivial
            have := (Array.getElem?_eq_some_iff.1 hl2).1
            omega
        rintro e a3 W3 hp
        cases e with
        | normal =>
          obtain ⟨T', t1, t2, hk4, hi3⟩ := hp
          obtain ⟨hr, hl4, hk5, hli⟩ := fin none W3 hk4
          have ht := hTr T' t1
          exact ⟨_, _, hr, T', fun r h => (t1 r h).imp id (Nat.le_trans hsW), fun r h => by rw [World.putObj_size]; exact t2 r h, hli, .inl ⟨rfl, putI hI _ hi3 ht hgv2, hl4, hk5, ht, hgv2⟩⟩
        | ret =>
          obtain ⟨T', t1, t2, hk4, hi3⟩ := hp
          obtain ⟨hr, hl4, hk5, hli⟩ := fin (some .ret) W3 hk4
          have ht := hTr T' t1
          exact ⟨_, _, hr, T', fun r h => (t1 r h).imp id (Nat.le_trans hsW), fun r h => by rw [World.putObj_size]; exact t2 r h, hli, .inr ⟨rfl, .ret, putI (hIx _) _ hi3 ht hgv2, hl4, hk5, ht, hgv2⟩⟩
        | exit id =>
          obtain ⟨T', t1, t2, hk4, hi3⟩ := hp
          obtain ⟨hr, hl4, hk5, hli⟩ := fin (some (.exit id)) W3 hk4
          have ht := hTr T' t1
          exact ⟨_, _, hr, T', fun r h => (t1 r h).imp (fun h => h) (Nat.le_trans hsW), fun r h => by rw [World.putObj_size]; exact t2 r h, hli, .inr ⟨rfl, .exit id, putI (hIx _) _ hi3 ht hgv2, hl4, hk5, ht, hgv2⟩⟩
        | goto t =>
          obtain ⟨T', t1, t2, hk4, hi3⟩ := hp
          obtain ⟨hr, hl4, hk5, hli⟩ := fin (some (.goto t)) W3 hk4
          have ht := hTr T' t1
          exact ⟨_, _, hr, T', fun r h => (t1 r h).imp id (Nat.le_trans hsW), fun r h => by rw [World.putObj_size]; exact t2 r h, hli, .inr ⟨rfl, .goto t, putI (hIx _) _ hi3 ht hgv2, hl4, hk5, ht, hgv2⟩⟩
        | panic ch => exact hp.elim
        | outgrown => exact hp.elim
      | _ => exact hp.elim
    · rintro e W2 ⟨⟨v, rfl⟩, (⟨xs, T, hS, hi, hl, hk, ht, hv⟩ | ⟨pre, T, hSp, c, hi, hl, hk, ht, hv⟩)⟩
      · exact ⟨none, _, by have := run_endLoop (P := P) hl (by rw [hrec]; simp); rw [hrec] at this; exact this, hdone _ xs T _ hS (putI hI _ hi ht hv) rfl ((World.putObj_heap_other (by omega)).trans hk)⟩
      · exact ⟨some c, _, by have := run_endLoop (P := P) hl (by rw [hrec]; simp); rw [hrec] at this; exact this, hstop _ c pre T _ hSp (putI (hIx c) _ hi ht hv) rfl ((World.putObj_heap_other (by omega)).trans hk)⟩

end Go.Proofs

set_option linter.unusedSimpArgs false
set_option linter.unusedVariables false
namespace Go.Proofs
open Go.RowKit
set_option linter.unusedVariables false
section
variable {P : Program}
/-! As any_push, with the place of the new list. -/
theorem any_push2 {Q : Exit → Act → World → Prop} {a0 : Act} {w : World} {l : List Oper} (w0 : World) (m q : Nat) (nq sz : Nat) (z : Obj) (row : List Value) (bq : Nat) (te : TypeId) (v : Value) (qs : List Value) (af : (Nat → Gh) → Act)
    (hB : slotsOk l.toArray = true) (hB' : ∀ g, slotsOk (mixL [m, q] (mkPu m nq) g 0 l).toArray = true) (hS : Region.noSelect l.toArray = true) (hN : spB l.toArray [m, q] = true) (hne : m ≠ q)
    (hd : ∀ L : Nat → Bool, ∀ o, l[q]? = some o → (∀ e ∈ o.after, Region.binds .any e = true → L e.on = true) → L m = true)
    (hw : Below w0.heap.size w0 w) (hv0 : ∀ r, v.ownBlock = some r → w0.heap.size ≤ r) (hown : w.ownsRow bq te sz v nq qs)
    (hal : ∀ o, l[m]? = some o → ∀ (g : Nat → Gh) (x : World), KeepC w0 w v x → (execOp (af g).eval o).run P x = .ok (.value (.slice (some ⟨x.heap.size, 0, none⟩) 1 1)) (x.alloc z))
    (hap : ∀ o, l[q]? = some o → ∀ (g : Nat → Gh) (x : World), KeepC w0 w v x → x.ownsRow bq te sz v nq qs → x.heap[(g m).b]? = some z → ∃ v' x', (execOp (af g).eval o).run P x = .ok (.value v') x' ∧ x'.ownsRow bq te sz v' (nq + 1) (qs ++ row) ∧ x.grownBy x' v.ownBlock ∧ (v'.ownBlock = v.ownBlock ∨ ∃ k, v'.ownBlock = some k ∧ w.heap.size ≤ k))
    (hq : ∀ g u, KeepC w0 w v u → (∀ (x : Grew u) (b o : Nat), b < u.heap.size → x.val.cell? ⟨b, o, none⟩ = u.cell? ⟨b, o, none⟩) → Hid (∀ x : Grew u, Below w0.heap.size w0 x.val) → Hid (∀ x : Grew u, KeepC w0 w v x.val) →
      wpQuiet P (mixL [m, q] (mkPu m nq) g 0 l).toArray (fun w' => ∃ x : Grew u, w' = x.val) (fun a' => a' = af g) (mixL [m, q] (mkPu m nq) g 0 l) a0)
    (hind : ∀ j ∈ [m, q], ∀ g h, maskL (coneS l.toArray j 0 l []) 0 (af g).tmps.toList = maskL (coneS l.toArray j 0 l []) 0 (af (upd g j h)).tmps.toList)
    (hend : ∀ (g : Nat → Gh) (x : World), KeepC w0 w v x → x.ownsRow bq te sz (.slice (g q).a1 (nq + 1) (g q).c1) (nq + 1) (qs ++ row) → ((Value.slice (g q).a1 (nq + 1) (g q).c1).ownBlock = v.ownBlock ∨ ∃ k, (Value.slice (g q).a1 (nq + 1) (g q).c1).ownBlock = some k ∧ w.heap.size ≤ k) → Q .normal (af g) x) :
    wpAny P .any l.toArray Q l.toArray.size (Array.replicate l.toArray.size false) a0 { w with drawn := w.drawn + 1 } := by
  refine any_mixC w0 (KeepC w0 w v) [m, q] (mkPu m nq) (fun L g x => (L q = true → L m = true) ∧ (L q = false → L m = true → w.heap.size ≤ (g m).b ∧ x.heap[(g m).b]? = some z) ∧ (L q = false → x.ownsRow bq te sz v nq qs) ∧
      (L q = true → x.ownsRow bq te sz (.slice (g q).a1 (nq + 1) (g q).c1) (nq + 1) (qs ++ row) ∧ ((Value.slice (g q).a1 (nq + 1) (g q).c1).ownBlock = v.ownBlock ∨ ∃ k, (Value.slice (g q).a1 (nq + 1) (g q).c1).ownBlock = some k ∧ w.heap.size ≤ k))) af hB hB' hS hN (KeepC.refl hw) (fun x x' h hb => h.below hb) (fun x h => h.1) ?_ ?_ hq hind ?_ ?_
  · intro L h
    have a1 := h m (by simp)
    have a2 := h q (by simp)
    rw [a1, a2]
    exact ⟨(fun h => by cases h), (fun _ h => by cases h), fun _ => hown, (fun h => by cases h)⟩
  · rintro L L' g x x' h ⟨j0, j1, j2, j3⟩ hb
    have a1 := h m (by simp)
    have a2 := h q (by simp)
    rw [a1, a2]
    exact ⟨j0, fun h h' => ⟨(j1 h h').1, bk_keep hb (j1 h h').2⟩, fun h => owns_below (j2 h) hb, fun h => ⟨owns_below (j3 h).1 hb, (j3 h).2⟩⟩
  · intro j hj o ho L g x ⟨j0, j1, j2, j3⟩ hC hb0 hL hafter hclo
    simp only [List.mem_cons, List.not_mem_nil, or_false] at hj
    rcases hj with rfl | rfl
    · have lq : L q = false := by
        cases hh : L q with
        | false => rfl
        | true => rw [j0 hh] at hL; cases hL
      refine does_value (hal o ho g x hC) ⟨hC.below (new_below _ _), .inr ⟨{ Gh.zero with b := x.heap.size }, by simp [mkPu], ?_⟩⟩
      rw [setL_self, setL_ne (Ne.symm hne), upd_self, upd_ne (Ne.symm hne), lq]
      exact ⟨(fun h => by cases h), fun _ _ => ⟨hC.2.1, bk_new _ _ rfl⟩, fun _ => owns_below (j2 lq) (new_below _ _), (fun h => by cases h)⟩
    · have lm := hd L o ho hafter
      obtain ⟨v', x', r1, r2, r3, r4⟩ := hap o ho g x hC (j2 hL) (j1 hL lm).2
      obtain ⟨gB, cap, rfl⟩ := own_slice r2
      refine does_value r1 ⟨hC.grown hw.size hv0 r3 (fun r e => .inr e), .inr ⟨{ Gh.zero with a1 := gB, c1 := cap }, by simp [mkPu, Ne.symm hne], ?_⟩⟩
      rw [setL_self, setL_ne hne, upd_self, upd_ne hne, lm]
      exact ⟨fun _ => rfl, (fun h => by cases h), (fun h => by cases h), fun _ => ⟨r2, r4⟩⟩
  · rintro g x ⟨-, -, -, j3⟩ hC hb0
    exact hend g x hC (j3 rfl).1 (j3 rfl).2
theorem exec_append_cells2 {f : Operand → Value} {o : Oper} {x : World} (s y : Operand) (t e : TypeId) (i : TypeInfo) (z0 v : Value) (bytes base n b sz : Nat) (xs us : List Value) (tb : TypeId)
    (ho : o.op = .call { callee := .builtin .append, args := #[s, y], argTypes := #[t, t] }) (hs : f s = v) (hy : f y = .slice (some ⟨b, 0, none⟩) 1 1)
    (ht : P.underlying t = some (.slice e)) (hi : P.info? e = some i) (hz : i.zero = some z0) (hsize : i.size = sz) (hby : i.bytes = bytes) (hzs : z0.cells.size = sz) (hbb : bytes ≤ 1000) (hsz : 0 < sz) (hus : us.length = sz)
    (hown : x.ownsRow base e sz v n xs) (hb : x.heap[b]? = some (.cells us.toArray tb (0, 0))) (h1 : ∀ u ∈ us, u.oneCell' = true) (h63 : n + 1 ≤ 1000) (hbase : base ≤ x.heap.size) (n0 : Nat) (hn0 : n0 ≤ x.heap.size) :
    ∃ v' x', (execOp f o).run P x = .ok (.value v') x' ∧ x'.ownsRow base e sz v' (n + 1) (xs ++ us) ∧ x.grownBy x' v.ownBlock ∧ (v'.ownBlock = v.ownBlock ∨ ∃ k, v'.ownBlock = some k ∧ n0 ≤ k) := by
  obtain ⟨v', x', r1, r2, r3, r4⟩ := exec_append_lie s y t e i z0 v bytes base n b sz xs us tb ho hs hy ht hi hz hsize hby hzs hbb hsz hus hown hb h1 h63 hbase
  exact ⟨v', x', r1, r2, r3, r4.imp id fun h => ⟨_, h, hn0⟩⟩
end
end Go.Proofs

set_option linter.unusedSimpArgs false
set_option linter.unusedVariables false
namespace Go.Proofs
open Go.RowKit
set_option linter.unusedVariables false
attribute [local go_sem] Oper.semAt_some
/-! The least set of entries of which something is so. -/
section
variable {F : Fence} {n : Nat} {P : Program}
theorem wpIn_loop_g {Q : Exit → Act → World → Prop} {a : Act} {w : World} {c : Code} (I : Nat → Act → World → Prop) (n₀ : Nat) (h₀ : I n₀ a w)
    (round : ∀ m a w, I m a w → ∀ K : Act → World → Prop, (∀ k a' w', k < m → I k a' w' → K a' w') → c.wpIn F n P (Exit.then K Q) a w) : (Code.loop c).wpIn F n P Q a w := by
  refine wpIn_loop (fun a w => ∃ n, I n a w) (fun a w => leastOf (fun n => I n a w)) ⟨n₀, h₀⟩ ?_
  intro a w hI
  refine wpIn_mono (round _ a w (leastOf_spec hI).1 (fun a' w' => ∃ n', n' < leastOf (fun n => I n a w) ∧ I n' a' w') fun k a' w' h1 h2 => ⟨k, h1, h2⟩) ?_
  intro e a' w' hq
  cases e with
  | normal =>
    obtain ⟨n', hlt, hI'⟩ := hq
    exact show (∃ n, I n a' w') ∧ leastOf (fun n => I n a' w') < leastOf (fun n => I n a w) from ⟨⟨n', hI'⟩, Nat.lt_of_le_of_lt ((leastOf_spec ⟨n', hI'⟩).2 n' hI') hlt⟩
  | exit id => exact hq
  | goto l => exact hq
  | ret => exact hq
  | panic ch => exact hq
  | outgrown => exact hq
/-- The marks of loops over functions, taken one by one. -/
theorem leaves_marks {fn : Func} {tmps : Array Value} {R : Ending → World → Prop} (w0 : World) : ∀ (Ds : List Nat) (w : World), Below w0.heap.size w0 w → Ds.Nodup → (∀ D ∈ Ds, w0.heap.size ≤ D ∧ w.heap[D]? = some (.deferred (some []))) →
    (∀ w', Below w0.heap.size w0 w' → (∀ k, k ∉ Ds → w'.heap[k]? = w.heap[k]?) → LeavesInM F n P fn tmps R [] .returning w') → LeavesInM F n P fn tmps R (Ds.map fun D => { target := .collected D, args := #[] }) .returning w
  | [], w, hb, _, _, h => h w hb fun _ _ => rfl
  | D :: Ds, w, hb, hn, hD, h => by
    obtain ⟨hn1, hn2⟩ := List.nodup_cons.1 hn
    obtain ⟨d1, d2⟩ := hD D (by simp)
    refine ⟨by simp, .inl ⟨_, _, rfl, run_takeDeferred d2, ?_⟩⟩
    refine leaves_marks w0 Ds _ (hb.grown (grownBy_putObj' _ _ _) hb.size fun r e => by cases e; exact d1) hn2 (fun D' hD' => ⟨(hD D' (by simp [hD'])).1, ?_⟩) fun w' hb' hk => h w' hb' fun k hk' => ?_
    · rw [World.putObj_heap_other]
      · exact (hD D' (by simp [hD'])).2
      · rintro rfl; exact hn1 hD'
    · rw [hk k fun h => hk' (by simp [h]), World.putObj_heap_other]
      rintro rfl; exact hk' (by simp)
end
theorem results_cell2 {P : Program} {fn : Func} {p1 p2 : Tmp} {t1 t2 : TypeId} (h : fn.results = #[.cell p1 t1, .cell p2 t2]) {tmps : Array Value} {w : World} {a1 a2 : Addr} {v1 v2 : Value} (h1 : tmps.getD p1 undef = .pointer (some a1)) (h2 : tmps.getD p2 undef = .pointer (some a2))
    (l1 : (loadVar t1 a1).run P w = .ok v1 w) (l2 : (loadVar t2 a2).run P w = .ok v2 w) : (results fn tmps).run P w = .ok (.tuple #[v1, v2]) w := by
  unfold results
  rw [h]
  simp only [List.mapM_toArray, List.mapM_cons, List.mapM_nil, h1, h2, Sem.run_bind, Sem.run_pure, run_asAddr, Result.andThen_ok, l1, l2, bind_assoc, pure_bind, map_eq_pure_bind]
  rfl
theorem run_loadSlice {P : Program} {t : TypeId} {w : World} {b : Nat} {A : Option Addr} {n c : Nat} (hag : (isAgg t).run P w = .ok false w) (hb : w.cell? ⟨b, 0, none⟩ = some (.slice A n c)) : (loadVar t ⟨b, 0, none⟩).run P w = .ok (.slice A n c) w := by
  simp [loadVar, go_sem, hag, hb]
theorem own_ltN {w : World} {base n c b sz : Nat} {e : TypeId} {A : Option Addr} {xs : List Value} (h : w.ownsRow base e sz (.slice A n c) n xs) (hb : ∃ a, A = some a ∧ b = a.block) : base ≤ b ∧ b < w.heap.size := by
  obtain ⟨a, rfl, rfl⟩ := hb
  exact h.lt a.block rfl
theorem leastSetL_at {P : List Nat → Bool} {n j : Nat} (hj : j ≤ n) (hno : ∀ s, s < j → (cmb 0 n s).find? P = none) {x : List Nat} (hx : (cmb 0 n j).find? P = some x) : leastSetL P n = some x := by
  unfold leastSetL
  obtain ⟨d, hd⟩ : ∃ d, n + 1 = j + (d + 1) := ⟨n - j, by omega⟩
  rw [hd, List.range_add, List.findSome?_append, List.findSome?_eq_none_iff.2 (fun s hs => hno s (List.mem_range.1 hs)), List.range_succ_eq_map, List.map_cons, List.findSome?_cons]
  simp [hx]
theorem leastSetL_none {P : List Nat → Bool} {n : Nat} (hno : ∀ s, s < n + 1 → (cmb 0 n s).find? P = none) : leastSetL P n = none := by
  unfold leastSetL
  rw [List.findSome?_eq_none_iff]
  exact fun s hs => hno s (List.mem_range.1 hs)
def LsGot (q : Option (List Nat)) (n0 : Nat) (e : Ending) (w' : World) : Prop := match q with
  | none => e = .returned (.tuple #[.slice none 0 0, .bool false])
  | some S => ∃ A c, e = .returned (.tuple #[.slice A S.length c, .bool true]) ∧ w'.ownsRow n0 3 1 (.slice A S.length c) S.length ((natZ S).flatMap Zc)
set_option maxRecDepth 100000 in
set_option maxHeartbeats 8000000 in
theorem leastSet_any (pA eA wA : Option Addr) (np pc en ec wc P1 P2 P3 : Nat) (es : List En) (ws : List Int) (k ag v : Int) (w : World) (hR : RightE es np) (hE : EnsAt w eA es) (hen : es.length = en) (hec : en ≤ ec) (hW : At 1 Zc w wA ws) (hwn : ws.length = np) (h1 : 1 ≤ np) (h5 : np ≤ 5) (hws : Small 400 ws) (hw1 : k = 1 → Small 1 ws) (hv : v.natAbs ≤ 1000)
    (H1 : w.heap[P1]? = some (.cells #[.slice wA np wc] 33 (0, 0))) (H2 : w.heap[P2]? = some (.cells #[.int .i64 k, .int .i64 ag] 27 (0, 0))) (H3 : w.heap[P3]? = some (.cells #[.int .i64 v] 3 (0, 0))) :
    Calls Tryz.prog 59 #[.agg #[.slice pA np pc, .slice eA en ec], (.func (.func 56) #[] #[.pointer (some ⟨P1, 0, none⟩), .pointer (some ⟨P2, 0, none⟩), .pointer (some ⟨P3, 0, none⟩)])] w fun e w' => LsGot (leastSetL (fun S => standsB np (exs (pickL es S)) ws k v) en) w.heap.size e w' ∧ Below w.heap.size w w' := by
  have hen8 : en ≤ 8 := by rw [← hen]; exact hR.n8
  have hOn := Lib.hid fun W sA sc (S : List Nat) sn (hb : Below w.heap.size w W) (hS : At 1 Zc W sA (natZ S)) (hSn : S.length = sn) (hasc : Asc 0 en S) => only_any pA eA sA pc ec np en sc sn es S W (hE.below hb) hen hec hS hSn (fun i hi => (hasc.lt i hi).2) (by have := asc_len hasc; omega)
  obtain ⟨PB, hPB⟩ : ∃ f : List Nat → Bool, (fun S => standsB np (exs (pickL es S)) ws k v) = f := ⟨_, rfl⟩
  have hGr := Lib.hid (show ∀ W A c (S : List Nat) sn base, Below w.heap.size w W → S.length = sn → Asc 0 en S → W.ownsRow base 73 3 (.slice A sn c) sn ((pickL es S).flatMap En.cs) →
      Calls Tryz.prog 56 #[.agg #[.slice pA np pc, .slice A sn c], .pointer (some ⟨P1, 0, none⟩), .pointer (some ⟨P2, 0, none⟩), .pointer (some ⟨P3, 0, none⟩)] W fun e w' => e = .returned (.bool (PB S)) ∧ Below W.heap.size W w' from fun W A c S sn base hb hSn hasc hA => by
    have hpl : (pickL es S).length = sn := by rw [pickL_len (fun i hi => by rw [hen]; exact (hasc.lt i hi).2), hSn]
    have hsl := asc_len hasc
    have := ground1_any pA A wA np pc sn c wc P1 P2 P3 (pickL es S) ws k ag v W ⟨by omega, fun x hx => hR.co x (pickL_mem hx)⟩ ⟨by
      rw [← hpl] at hA
      obtain ⟨A', c', e, h1⟩ := at_of_owns (cs := En.cs) (sz := 3) (fun _ => rfl) hA
      cases e
      exact h1, fun x hx => (hE.2 x (pickL_mem hx)).below hb⟩ hpl (hW.below hb) hwn h1 h5 hws hw1 hv (bk_keep hb H1) (bk_keep hb H2) (bk_keep hb H3)
    rw [← hPB]
    exact this)
  rw [hPB]
  have hw2 : IntKind.i64.wrap ((en : Int) + 1) = (en : Int) + 1 := IntWalk.i64_in _ (by omega)
  clear hR hE hen hW hwn h1 h5 hws hw1 hv H1 H2 H3 hPB
  refine (callsIn_wide (n := 6)).1 ?_
  refine callsIn_of_wp_marks Tryz.func59 rfl trivial ?_ rfl
  simp only [Tryz.ntmps59, List.size_toArray, List.length_cons, List.length_nil, Nat.reduceAdd, Nat.reduceSub, Array.replicate_succ, Array.replicate_zero, List.push_toArray, List.append_toArray, List.nil_append, List.cons_append]
  gi_wp2
  refine wpIn_loop_g (fun m a W => ∃ (j : Nat) (u6 u7 u13 u14 u15 u16 u17 u18 u19 u20 u21 u22 u23 u24 u25 u26 u27 u28 : Value) (Ds : List Nat), m + j = en + 1 ∧ a = { tmps := #[.agg #[.slice pA np pc, .slice eA en ec], (.func (.func 56) #[] #[.pointer (some ⟨P1, 0, none⟩), .pointer (some ⟨P2, 0, none⟩), .pointer (some ⟨P3, 0, none⟩)]), .pointer (some ⟨w.heap.size, 0, none⟩), .pointer (some ⟨(w.heap.size + 1), 0, none⟩), .pointer (some ⟨(w.heap.size + 1 + 1), 0, none⟩), .pointer (some ⟨(w.heap.size + 1 + 1 + 1), 0, none⟩), u6, u7, .pointer (some ⟨w.heap.size, 1, none⟩), .slice eA en ec, .int .i64 en, .int .i64 ((en : Int) + 1), .int .i64 j, u13, u14, u15, u16, u17, u18, u19, u20, u21, u22, u23, u24, u25, u26, u27, u28], defers := ((Ds : List Nat).map fun D => ({ target := .collected D, args := #[] } : Deferred)) } ∧ (Below w.heap.size w W ∧ W.heap[w.heap.size]? = some (.cells #[.slice pA np pc, .slice eA en ec] 25 (0, 0)) ∧ W.heap[(w.heap.size + 1)]? = some (.cells #[(.func (.func 56) #[] #[.pointer (some ⟨P1, 0, none⟩), .pointer (some ⟨P2, 0, none⟩), .pointer (some ⟨P3, 0, none⟩)])] 29 (0, 0)) ∧ W.heap[(w.heap.size + 1 + 1)]? = some (.cells #[.slice none 0 0] 33 (0, 0)) ∧ W.heap[(w.heap.size + 1 + 1 + 1)]? = some (.cells #[.bool false] 4 (0, 0))) ∧ Ds.Nodup ∧ (∀ D ∈ Ds, (w.heap.size + 1 + 1 + 1) < D ∧ W.heap[D]? = some (.deferred (some []))) ∧ ∀ s, s < j → (cmb 0 en s).find? PB = none) (en + 1) ?h0 ?round
  case h0 =>
    refine ⟨0, undef, undef, undef, undef, undef, undef, undef, undef, undef, undef, undef, undef, undef, undef, undef, undef, undef, undef, [], rfl, rfl, ⟨by go_grown, by (repeat (first | assumption | (refine bk_new _ _ ?_; (simp; done)) | refine bk_drew ?_ | refine bk_alloc ?_ _ | refine bk_set ?_ (by simp <;> omega) _)), by (repeat (first | assumption | (refine bk_new _ _ ?_; (simp; done)) | refine bk_drew ?_ | refine bk_alloc ?_ _ | refine bk_set ?_ (by simp <;> omega) _)), by (repeat (first | assumption | (refine bk_new _ _ ?_; (simp; done)) | refine bk_drew ?_ | refine bk_alloc ?_ _ | refine bk_set ?_ (by simp <;> omega) _)), by (repeat (first | assumption | (refine bk_new _ _ ?_; (simp; done)) | refine bk_drew ?_ | refine bk_alloc ?_ _ | refine bk_set ?_ (by simp <;> omega) _))⟩, List.nodup_nil, fun D hD => (by cases hD), fun s hs => (by omega)⟩
  case round =>
    rintro m a W ⟨j, u6, u7, u13, u14, u15, u16, u17, u18, u19, u20, u21, u22, u23, u24, u25, u26, u27, u28, Ds, hm, rfl, ⟨m0, m1, m2, m3, m4⟩, hnd, hDs, hno⟩ K hK
    have D0 := bk2 m1
    by_cases hj : j < en + 1
    · have hjI : (j : Int) < (en : Int) + 1 := by omega
      have hno' := Lib.hid hno
      have hK' := Lib.hid hK
      have hDs' := Lib.hid hDs
      clear hno hK hDs
      gi_wp2_with (refine ⟨trivial, ?_⟩; gi_at_call 81; refine (callsIn_wide.2 (choices_any _ _ _)).mono ?_; rintro e w1 ⟨⟨rfl, hc1, hc2⟩, hb1⟩)
      have hm1 := Lib.hid (show (Below w.heap.size w w1 ∧ w1.heap[w.heap.size]? = some (.cells #[.slice pA np pc, .slice eA en ec] 25 (0, 0)) ∧ w1.heap[(w.heap.size + 1)]? = some (.cells #[(.func (.func 56) #[] #[.pointer (some ⟨P1, 0, none⟩), .pointer (some ⟨P2, 0, none⟩), .pointer (some ⟨P3, 0, none⟩)])] 29 (0, 0)) ∧ w1.heap[(w.heap.size + 1 + 1)]? = some (.cells #[.slice none 0 0] 33 (0, 0)) ∧ w1.heap[(w.heap.size + 1 + 1 + 1)]? = some (.cells #[.bool false] 4 (0, 0))) from ⟨via m0 hb1, bk_keep hb1 m1, bk_keep hb1 m2, bk_keep hb1 m3, bk_keep hb1 m4⟩)
      have hd1 := Lib.hid (show ∀ D ∈ Ds, w1.heap[D]? = some (.deferred (some [])) from fun D hD => bk_keep hb1 (hDs'.out D hD).2)
      have hs1 := bk_size hc1
      have hW0 := m0.size
      have hs3 := bk_size m4
      have hDw : Hid (∀ D ∈ Ds, (w.heap.size + 1 + 1 + 1) < D ∧ D < W.heap.size) := Lib.hid fun D hD => ⟨(hDs'.out D hD).1, bk_size (hDs'.out D hD).2⟩
      clear hb1 m0 m1 m2 m3 m4 D0 hDs'
      have hstops := choices1_stops 5 en j (by omega) (by omega) (W.heap.size + 1) W.heap.size (fun k => k = (w.heap.size + 1 + 1) ∨ k = (w.heap.size + 1 + 1 + 1)) w1 hc1 hc2 (by rintro (h | h) <;> omega) (by rintro (h | h) <;> omega) (by rintro k (rfl | rfl) <;> omega)
      refine wp_rangeW rfl (by omega) (gf := 107) (lb := #[.pointer (some ⟨W.heap.size + 1, 0, none⟩), .pointer (some ⟨W.heap.size, 0, none⟩)]) rfl trivial (enters_of Tryz.func107 (by kernel_rfl) rfl) hstops (by rintro k (rfl | rfl) <;> omega) (fun _ => rfl)
        (fun pre T W' => (Below w.heap.size w W' ∧ W'.heap[w.heap.size]? = some (.cells #[.slice pA np pc, .slice eA en ec] 25 (0, 0)) ∧ W'.heap[(w.heap.size + 1)]? = some (.cells #[(.func (.func 56) #[] #[.pointer (some ⟨P1, 0, none⟩), .pointer (some ⟨P2, 0, none⟩), .pointer (some ⟨P3, 0, none⟩)])] 29 (0, 0)) ∧ W'.heap[(w.heap.size + 1 + 1)]? = some (.cells #[.slice none 0 0] 33 (0, 0)) ∧ W'.heap[(w.heap.size + 1 + 1 + 1)]? = some (.cells #[.bool false] 4 (0, 0))) ∧ w1.heap.size ≤ W'.heap.size ∧ (∀ D ∈ Ds, W'.heap[D]? = some (.deferred (some []))) ∧ ∀ x ∈ pre, PB x.l = false)
        (fun c pre T W' => c = .ret ∧ ∃ (pre' : List ChV) (x : ChV) (A : Option Addr) (c1 : Nat), pre = pre' ++ [x] ∧ x.l.length = j ∧ (∀ y ∈ pre', PB y.l = false) ∧ PB x.l = true ∧
          (Below w.heap.size w W' ∧ W'.heap[w.heap.size]? = some (.cells #[.slice pA np pc, .slice eA en ec] 25 (0, 0)) ∧ W'.heap[(w.heap.size + 1)]? = some (.cells #[(.func (.func 56) #[] #[.pointer (some ⟨P1, 0, none⟩), .pointer (some ⟨P2, 0, none⟩), .pointer (some ⟨P3, 0, none⟩)])] 29 (0, 0)) ∧ W'.heap[(w.heap.size + 1 + 1)]? = some (.cells #[.slice A j c1] 33 (0, 0)) ∧ W'.heap[(w.heap.size + 1 + 1 + 1)]? = some (.cells #[.bool true] 4 (0, 0))) ∧ (∀ D ∈ Ds, W'.heap[D]? = some (.deferred (some []))) ∧ W'.ownsRow w1.heap.size 3 1 (.slice A j c1) j ((natZ x.l).flatMap Zc) ∧ (∀ g, A = some g → T g.block))
        (fun pre T x a W' => ((Below w.heap.size w W' ∧ W'.heap[w.heap.size]? = some (.cells #[.slice pA np pc, .slice eA en ec] 25 (0, 0)) ∧ W'.heap[(w.heap.size + 1)]? = some (.cells #[(.func (.func 56) #[] #[.pointer (some ⟨P1, 0, none⟩), .pointer (some ⟨P2, 0, none⟩), .pointer (some ⟨P3, 0, none⟩)])] 29 (0, 0)) ∧ W'.heap[(w.heap.size + 1 + 1)]? = some (.cells #[.slice none 0 0] 33 (0, 0)) ∧ W'.heap[(w.heap.size + 1 + 1 + 1)]? = some (.cells #[.bool false] 4 (0, 0))) ∧ w1.heap.size ≤ W'.heap.size ∧ (∀ D ∈ Ds, W'.heap[D]? = some (.deferred (some []))) ∧ ∀ x ∈ pre, PB x.l = false) ∧ ((pre ++ [x]).map ChV.l <+: cmb 0 en j ∧ IntsAt 3 W' x.b (natZ x.l) ∧ x.l.length = j) ∧ a = { tmps := #[.agg #[.slice pA np pc, .slice eA en ec], (.func (.func 56) #[] #[.pointer (some ⟨P1, 0, none⟩), .pointer (some ⟨P2, 0, none⟩), .pointer (some ⟨P3, 0, none⟩)]), .pointer (some ⟨w.heap.size, 0, none⟩), .pointer (some ⟨(w.heap.size + 1), 0, none⟩), .pointer (some ⟨(w.heap.size + 1 + 1), 0, none⟩), .pointer (some ⟨(w.heap.size + 1 + 1 + 1), 0, none⟩), .int .i64 j, .slice (some ⟨x.b, 0, none⟩) j j, .pointer (some ⟨w.heap.size, 1, none⟩), .slice eA en ec, .int .i64 en, .int .i64 ((en : Int) + 1), .int .i64 j, .bool true, .int .i64 j, .pointer (some ⟨w.heap.size, 1, none⟩), .slice eA en ec, .int .i64 en, .int .i64 j, .func (.func 107) #[] #[.pointer (some ⟨W.heap.size + 1, 0, none⟩), .pointer (some ⟨W.heap.size, 0, none⟩)], .slice (some ⟨x.b, 0, none⟩) j j, u21, u22, u23, u24, u25, u26, u27, u28], defers := [] })
        ?hI ?hIx ?hAx ?h0 ?assign ?body ?done ?stop
      case hI =>
        rintro s T A W' row ⟨⟨m0, m1, m2, m3, m4⟩, h3, hd, h4⟩ hg hr
        have hk : ∀ {k : Nat} {o : Obj}, k < w1.heap.size → A.heap[k]? = some o → W'.heap[k]? = some o := fun hk ho => (hg.block _ (bk_size ho) (fun e => by have := (hr _ e.symm).1; omega)).trans ho
        exact ⟨⟨m0.grown hg m0.size (fun r e => by have := (hr r e).1; omega), hk (by omega) m1, hk (by omega) m2, hk (by omega) m3, hk (by omega) m4⟩, Nat.le_trans h3 hg.size, fun D hD => hk (by have := (hDw.out D hD).2; omega) (hd D hD), h4⟩
      case hIx =>
        rintro c s T A W' row ⟨rfl, pre', x, A1, c1, q1, q0, q2, q3, ⟨m0, m1, m2, m3, m4⟩, hd, o1, t1⟩ hg hr
        have hk : ∀ {k : Nat} {o : Obj}, k < w1.heap.size → A.heap[k]? = some o → W'.heap[k]? = some o := fun hk ho => (hg.block _ (bk_size ho) (fun e => by have := (hr _ e.symm).1; omega)).trans ho
        refine ⟨rfl, pre', x, A1, c1, q1, q0, q2, q3, ⟨m0.grown hg m0.size (fun r e => by have := (hr r e).1; omega), hk (by omega) m1, hk (by omega) m2, hk (by omega) m3, hk (by omega) m4⟩, fun D hD => hk (by have := (hDw.out D hD).2; omega) (hd D hD), ?_, t1⟩
        refine owns_grown o1 hg fun g e e2 => ?_
        cases A1 with
        | none => cases e
        | some a => cases e; exact (hr _ e2.symm).2.1 (t1 a rfl)
      case hAx =>
        rintro pre T x a W' l o o' hl hT hgv ho hc ⟨⟨⟨m0, m1, m2, m3, m4⟩, h3, hd, h4⟩, ⟨k1, k2, k3⟩, rfl⟩
        have hg := grownBy_putObj' W' l o'
        have hk : ∀ {k : Nat} {o : Obj}, k < w1.heap.size → W'.heap[k]? = some o → (W'.putObj l o').heap[k]? = some o := fun hk ho => (World.putObj_heap_other (by omega)).trans ho
        refine ⟨⟨⟨m0.grown hg m0.size (fun r e => by cases e; omega), hk (by omega) m1, hk (by omega) m2, hk (by omega) m3, hk (by omega) m4⟩, by rw [World.putObj_size]; exact h3, fun D hD => hk (by have := (hDw.out D hD).2; omega) (hd D hD), h4⟩, ⟨k1, ?_, k3⟩, rfl⟩
        unfold IntsAt at k2 ⊢
        rw [World.putObj_heap_other]
        · exact k2
        · rintro rfl
          rw [k2] at ho
          cases ho
          cases hc
      case h0 => exact ⟨hm1.out, Nat.le_refl _, hd1.out, fun p hp => by cases hp⟩
      case assign =>
        rintro l pre T x W' hi hT hlen hok -
        unfold encC
        have hxl := hok.2.2
        rw [hxl]
        gi_wp2
        exact ⟨Lie.refl _ _, hi, ⟨hok.1, hok.2.1, trivial⟩, by trivial⟩
      case body =>
        rintro l pre T x a W' ⟨⟨⟨m0, m1, m2, m3, m4⟩, h3, hd, h4⟩, ⟨k1, k2, k3⟩, rfl⟩ hT hlen
        have hmem : x.l ∈ cmb 0 en j := k1.subset (by simp)
        have hasc : Asc 0 en x.l := by have := cmb_asc 0 en j _ hmem; rwa [Nat.zero_add] at this
        obtain ⟨B, hB⟩ : ∃ B, PB x.l = B := ⟨_, rfl⟩
        have hOx := Lib.hid fun y (hb : Below W'.heap.size W' y) => hOn.out y (some ⟨x.b, 0, none⟩) j x.l j (via m0 hb) (k2.at'.below hb) k3 hasc
        have hGx := Lib.hid fun y A c (hb : Below W'.heap.size W' y) => hGr.out y A c x.l j W'.heap.size (via m0 hb) k3 hasc
        simp only [hB] at hGx
        have hCl := Lib.hid fun y (hb : Below W'.heap.size W' y) => clone_ints (some ⟨x.b, 0, none⟩) (natZ x.l) j j y (k2.at'.below hb) (by rw [natZ_len, k3]) (by omega) (fun e => by cases e)
        have hB' := Lib.hid hB
        have h4' := Lib.hid h4
        have k3' := Lib.hid k3
        have hT2 : Hid (∀ r, T r → r < W'.heap.size) := Lib.hid fun r h => (hT r h).2
        have hd' := Lib.hid hd
        have hsW := bk_size m4
        have D0 := bk2 m1
        have D1 := bk1 m2
        clear hmem hasc hB h4 k1 k2 k3 hT hd hc1 hc2 hstops hlen hm1 hd1
        refine wpIn_block ?_
        refine wpIn_seq_k ?_
        intro K2 hK2
        have hK2 := Lib.hid hK2
        refine wpIn_region_any (by kernel_rfl) (wpAnyIn_round ?hd8 ?hL8 _ _ _ _ ?_)
        case hd8 => exact noDef (by kernel_rfl)
        case hL8 => rintro ⟨a, w, h⟩; exact h
        apply any_gen w (fun y => Below W'.heap.size W' y) [3, 4] [] (fun j => j) (fun q => if q = 4 then [3] else [])
          (fun q g => if q = 3 then .agg #[.slice pA np pc, .slice g.a1 j g.c1] else .bool B)
          (fun q f g y => if q = 3 then y.ownsRow W'.heap.size 73 3 (.slice (g 3).a1 j (g 3).c1) j ((pickL es x.l).flatMap En.cs) else True)
          (fun q h b => if q = 3 then ∃ a, h.a1 = some a ∧ b = a.block else False)
        case hB => kernel_rfl
        case hB' => intro g; kernel_rfl
        case hS => kernel_rfl
        case hN => kernel_rfl
        case hnd => decide
        case htg => decide
        case hinj => decide
        case hD => kernel_rfl
        case hkd => kernel_rfl
        case hC0 => exact Below.refl _ _
        case hCs => exact fun y y' h hb => h.trans (hb.mono h.size)
        case hCw => exact fun y h => via m0 h
        case hCz => exact fun y h => h.size
        case hCo => exact fun y y' b h ho hb => h.trans (ho.below _ hb)
        case hq =>
          intro g u hu hgc hbx hbX
          have D0 := bk2 (bk_keep hu m1)
          have D1 := bk1 (bk_keep hu m2)
          simp only [List.cons_append, List.nil_append, mixL, yieldsC, List.contains_cons, List.contains_nil, Nat.reduceAdd, Nat.reduceBEq, Nat.zero_add, Bool.or_false, Bool.or_true, Bool.false_or, Bool.true_or, Bool.false_eq_true, if_true, if_false, Bool.or_self, Nat.reduceEqDiff]
          repeat (go_big_quiet_step (fail))
          exact wpQuiet_nil rfl
        case hRb =>
          intro q f g y y' h hb
          by_cases e2 : q = 3
          · rw [if_pos e2] at h ⊢; exact owns_below h hb
          rw [if_neg e2]; trivial
        case hRg =>
          intro i f g q h y hne hd hst hR
          by_cases e2 : i = 3
          · rw [if_pos e2] at hR ⊢; subst e2; rw [upd_ne (Ne.symm hne)]; exact hR
          rw [if_neg e2]; trivial
        case hRo =>
          intro i f g b y y' hC hR ho hb hn
          by_cases e2 : i = 3
          · rw [if_pos e2] at hR ⊢; rw [if_pos e2] at hn; subst e2; exact owns_kept hR fun r e => ho.other r (own_ne hn e)
          rw [if_neg e2]; trivial
        case hmake =>
          intro q hq o ho g y hC hdep
          simp only [List.mem_cons, List.not_mem_nil, or_false] at hq
          rcases hq with rfl | rfl
          · simp only [List.getElem?_cons_succ, List.getElem?_cons_zero, Option.some.injEq] at ho
            subst ho
            refine does_enter (by kernel_rfl) ((hOx.out y hC).mono ?_)
            rintro e y' ⟨⟨A, c, rfl, hO⟩, hb⟩
            refine ⟨_, rfl, { Gh.zero with a1 := A, c1 := c }, rfl, ?_, hb, fun b hb' => own_ltN hO hb'⟩
            rw [if_pos rfl, upd_self]
            exact owns_base hO hC.size
          · simp only [List.getElem?_cons_succ, List.getElem?_cons_zero, Option.some.injEq] at ho
            subst ho
            obtain ⟨f, h3, -⟩ := hdep 3 (by simp) (by simp)
            rw [if_pos rfl] at h3
            refine does_enter (by kernel_rfl) ((hGx.out y (g 3).a1 (g 3).c1 hC h3).mono ?_)
            rintro e y' ⟨rfl, hb⟩
            refine ⟨_, rfl, Gh.zero, rfl, ?_, hb, fun b hb' => ?_⟩
            · rw [if_neg (by decide)]; trivial
            · rw [if_neg (by decide)] at hb'; exact hb'.elim
        case hstore =>
          intro k hk
          cases hk
        case hind =>
          intro q hq
          simp only [List.cons_append, List.nil_append, List.append_nil, List.mem_cons, List.not_mem_nil, or_false] at hq
          rcases hq with rfl | rfl <;> (intro g h; kernel_rfl)
        intro g g0 hy hall
        clear hall
        have n1 := bk_keep hy m1
        have n2 := bk_keep hy m2
        have n3 := bk_keep hy m3
        have n4 := bk_keep hy m4
        have hby := via m0 hy
        have hys := hy.size
        refine hK2.out _ _ ?_
        clear hK2 D0 D1
        cases B
        · gi_wp2
          exact ⟨T, fun r h => .inl h, fun r hr => Nat.lt_of_lt_of_le (hT2.out r hr) hys, .of_below _ hy, ⟨hby, n1, n2, n3, n4⟩, Nat.le_trans h3 hys, fun D hD => bk_keep hy (hd'.out D hD), fun z hz => by
            rcases List.mem_append.1 hz with h | h
            · exact h4'.out z h
            · rw [List.mem_singleton] at h; rw [h]; exact hB'.out⟩
        · refine wpIn_cond_true rfl ?_
          refine wpIn_seq_k ?_
          intro K3 hK3
          have hK3 := Lib.hid hK3
          refine wpIn_region_lit (wpListIn_round ?hL3 _ _ _ (by kernel_rfl) ?_)
          case hL3 => rintro ⟨a, w, h⟩; exact h
          go_wp2_with (go_at_call 76; refine (hCl.out _ hy).mono ?_; rintro e y5 ⟨⟨A5, c5, rfl, hO5⟩, hb5⟩; (have p3 := bk_keep hb5 n3); (have p4 := bk_keep hb5 n4); (have C3 := bk1 p3); (have C4 := bk1 p4); (have hO5' := Lib.hid hO5); clear hO5)
          refine wpIn_ret ?_
          have hb25 := via hy hb5
          have hs5 := hb25.size
          have hl5 : ∀ g, A5 = some g → g0.heap.size ≤ g.block ∧ g.block < y5.heap.size := fun g e => by subst e; exact hO5'.out.lt g.block rfl
          obtain ⟨W9, hW9⟩ : ∃ W9, (y5.setCell ⟨(w.heap.size + 1 + 1), 0, none⟩ (.slice A5 j c5)).setCell ⟨(w.heap.size + 1 + 1 + 1), 0, none⟩ (.bool true) = W9 := ⟨_, rfl⟩
          have hz9 : W9.heap.size = y5.heap.size := by rw [← hW9]; simp
          have hoth : ∀ k, k ≠ (w.heap.size + 1 + 1) → k ≠ (w.heap.size + 1 + 1 + 1) → W9.heap[k]? = y5.heap[k]? := fun k k1 k2 => by
            rw [← hW9, Below.heap_setCell _ _ _ _ (by dsimp only; exact k2), Below.heap_setCell _ _ _ _ (by dsimp only; exact k1)]
          have z2 : W9.heap[(w.heap.size + 1 + 1)]? = some (.cells #[.slice A5 j c5] 33 (0, 0)) := by rw [← hW9]; exact bk_set (bk_here p3 _ rfl) (by dsimp only; omega) _
          have z3 : W9.heap[(w.heap.size + 1 + 1 + 1)]? = some (.cells #[.bool true] 4 (0, 0)) := by rw [← hW9]; exact bk_here (bk_set p4 (by dsimp only; omega) _) _ rfl
          have hb9 : Below w.heap.size w W9 := by rw [← hW9]; exact ((via m0 hb25).setCell (by dsimp only; omega) _).setCell (by dsimp only; omega) _
          rw [hW9]
          refine ⟨fun r => T r ∨ (∃ g, A5 = some g ∧ r = g.block), ?_, ?_, ⟨by omega, fun k hk hn => ?_⟩, rfl, pre, x, A5, c5, rfl, k3'.out, h4'.out, hB'.out, ⟨hb9, (hoth _ (by omega) (by omega)).trans (bk_keep hb5 n1), (hoth _ (by omega) (by omega)).trans (bk_keep hb5 n2), z2, z3⟩, fun D hD => (hoth _ (by have := (hDw.out D hD).1; omega) (by have := (hDw.out D hD).1; omega)).trans (bk_keep hb25 (hd'.out D hD)), ?_, fun g e => .inr ⟨g, e, rfl⟩⟩
          · rintro r (h | ⟨g, e, rfl⟩)
            · exact .inl h
            · have := (hl5 g e).1; exact .inr (by omega)
          · rintro r (h | ⟨g, e, rfl⟩)
            · have := hT2.out r h; omega
            · have := (hl5 g e).2; omega
          · exact (hoth k (fun e => hn (.inl (.inl e))) (fun e => hn (.inl (.inr e)))).trans (hb25.block k hk)
          · refine owns_base (owns_kept hO5'.out fun g e => ?_) (show w1.heap.size ≤ g0.heap.size by omega)
            have := hO5'.out.lt g e
            exact hoth g (by omega) (by omega)
      case done =>
        rintro D xs T W' hS ⟨⟨m0, m1, m2, m3, m4⟩, h3, hd, h4⟩ rfl hKD
        have hnone : (cmb 0 en j).find? PB = none := by
          rw [← hS, List.find?_eq_none]
          intro l hl
          obtain ⟨x, hx, rfl⟩ := List.mem_map.1 hl
          rw [h4 x hx]
          decide
        have hwj : IntKind.i64.wrap ((j : Int) + 1) = ((j + 1 : Nat) : Int) := by rw [IntWalk.i64_in _ (by omega)]; omega
        gi_wp2
        refine hK'.out (m - 1) _ _ (by omega) ⟨j + 1, _, _, _, _, _, _, _, _, _, _, _, _, _, _, _, _, _, _, w1.heap.size :: Ds, by omega, rfl, ⟨m0, m1, m2, m3, m4⟩, List.nodup_cons.2 ⟨fun h => by have := (hDw.out _ h).2; omega, hnd⟩, fun D hD => ?_, fun s hs => ?_⟩
        · rcases List.mem_cons.1 hD with rfl | hD
          · exact ⟨by omega, hKD⟩
          · exact ⟨(hDw.out D hD).1, hd D hD⟩
        · rcases Nat.lt_or_ge s j with h | h
          · exact hno'.out s h
          · obtain rfl : s = j := by omega
            exact hnone
      case stop =>
        rintro D c pre T W' hS ⟨rfl, pre', x, A, c1, rfl, q0, q2, q3, ⟨m0, m1, m2, m3, m4⟩, hd, o1, -⟩ rfl hKD
        have hsome : leastSetL PB en = some x.l := by
          refine leastSetL_at (by omega) hno'.out ?_
          obtain ⟨rest, hr⟩ := hS
          rw [← hr, List.map_append, List.append_assoc, List.find?_append, show (pre'.map ChV.l).find? PB = none by
            rw [List.find?_eq_none]
            intro l hl
            obtain ⟨y, hy, rfl⟩ := List.mem_map.1 hl
            rw [q2 y hy]
            decide]
          simp [q3]
        gi_wp2
        have hno : ∀ g, (Value.slice A j c1).ownBlock = some g → g ∉ w1.heap.size :: Ds := fun g e h => by
          have hg1 := (o1.lt g e).1
          rcases List.mem_cons.1 h with rfl | h
          · rcases o1.2 with ⟨h, -⟩ | ⟨g', cap, cur, h, -, hg3, -⟩
            · rw [h] at e; cases e
            · rw [h] at e
              have e3 : g' = w1.heap.size := Option.some.inj e
              rw [e3, hKD] at hg3
              cases hg3
          · have := (hDw.out g h).2
            omega
        refine leaves_marks w (w1.heap.size :: Ds) W' m0 (List.nodup_cons.2 ⟨fun h => by have := (hDw.out _ h).2; omega, hnd⟩) (fun D hD => ?_) fun w' hb' hk => ?_
        · rcases List.mem_cons.1 hD with rfl | hD
          · exact ⟨by omega, hKD⟩
          · exact ⟨by have := (hDw.out D hD).1; omega, hd D hD⟩
        have hnb : ∀ k, k ≤ (w.heap.size + 1 + 1 + 1) → k ∉ w1.heap.size :: Ds := fun k hk h => by
          rcases List.mem_cons.1 h with rfl | h
          · omega
          · have := (hDw.out k h).1; omega
        have z2 := (hk (w.heap.size + 1 + 1) (hnb _ (by omega))).trans m3
        have z3 := (hk (w.heap.size + 1 + 1 + 1) (hnb _ (by omega))).trans m4
        refine ⟨.tuple #[.slice A j c1, .bool true], results_cell2 (p1 := 4) (p2 := 5) (a1 := ⟨(w.heap.size + 1 + 1), 0, none⟩) (a2 := ⟨(w.heap.size + 1 + 1 + 1), 0, none⟩) rfl (by rfl) (by rfl) (run_loadSlice (by kernel_rfl) (bk1 z2).1) (run_loadBool (by kernel_rfl) (bk1 z3).1), ?_, hb'⟩
        unfold LsGot
        rw [hsome]
        dsimp only
        rw [q0]
        exact ⟨A, c1, rfl, owns_base (owns_kept o1 fun g e => hk g (hno g e)) (by omega)⟩
    · obtain rfl : j = en + 1 := by omega
      have C3 := bk1 m3
      have C4 := bk1 m4
      have hno' := Lib.hid hno
      have hDs' := Lib.hid hDs
      clear hno hDs hK
      gi_wp2
      refine leaves_marks w Ds _ ((m0.setCell (by dsimp only; omega) _).setCell (by dsimp only; omega) _) hnd (fun D hD => ⟨by have := (hDs'.out D hD).1; omega, bk_set (bk_set (hDs'.out D hD).2 (by have := (hDs'.out D hD).1; dsimp only; omega) _) (by have := (hDs'.out D hD).1; dsimp only; omega) _⟩) fun w' hb' hk => ?_
      have z2 := (hk (w.heap.size + 1 + 1) fun h => by have := (hDs'.out _ h).1; omega).trans (bk_set (bk_here m3 (.slice none 0 0) rfl) (by dsimp only; omega) (.bool false))
      have z3 := (hk (w.heap.size + 1 + 1 + 1) fun h => by have := (hDs'.out _ h).1; omega).trans (bk_here (bk_set m4 (by dsimp only; omega) (.slice none 0 0)) (.bool false) rfl)
      refine ⟨.tuple #[.slice none 0 0, .bool false], results_cell2 (p1 := 4) (p2 := 5) (a1 := ⟨(w.heap.size + 1 + 1), 0, none⟩) (a2 := ⟨(w.heap.size + 1 + 1 + 1), 0, none⟩) rfl (by rfl) (by rfl) (run_loadSlice (by kernel_rfl) (bk1 z2).1) (run_loadBool (by kernel_rfl) (bk1 z3).1), ?_, hb'⟩
      unfold LsGot
      rw [leastSetL_none hno'.out]
end Go.Proofs
