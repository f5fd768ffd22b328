import Derived.Test.YtpmliaildjomeaaGreatDoorMg4
import Derived.WalkKit
import Derived.RangeFuncKeeps
import Derived.RangeFuncLeaves
import Derived.Below
import Derived.Test.YtpmliaildjomeaaGreatDoorMg1
set_option linter.unusedSimpArgs false
set_option linter.unusedVariables false
namespace Go.Proofs
open Go.RowKit

/-! A block of numbers of one's own, written by number. -/
def encZ (l : List Int) : Array Value := (l.map (Value.int .i64)).toArray
def IntsAt (T : TypeId) (W : World) (B : Nat) (l : List Int) : Prop := W.heap[B]? = some (.cells (encZ l) T (0, 0))
theorem encZ_size (l : List Int) : (encZ l).size = l.length := by simp [encZ]
theorem encZ_get (l : List Int) (k : Nat) : (encZ l)[k]? = l[k]?.map (Value.int .i64) := by simp [encZ]
theorem encZ_set (l : List Int) (k : Nat) (x : Int) : (encZ l).setIfInBounds k (.int .i64 x) = encZ (l.set k x) := by
  apply Array.ext_getElem?
  intro j
  rw [encZ_get, Array.getElem?_setIfInBounds, List.getElem?_set]
  simp only [encZ_size, encZ_get]
  by_cases h : k = j
  · subst h
    by_cases hk : k < l.length
    · simp [hk]
    · simp [hk]
  · simp [h]
theorem IntsAt.load {T : TypeId} {W : World} {B : Nat} {l : List Int} (h : IntsAt T W B l) {k : Nat} {x : Int} (hx : l[k]? = some x) : W.cell? ⟨B, k, none⟩ = some (.int .i64 x) := by
  unfold IntsAt at h
  unfold World.cell?
  rw [h]
  simp [encZ_get, hx]
theorem IntsAt.loadD {T : TypeId} {W : World} {B : Nat} {l : List Int} (h : IntsAt T W B l) {k : Nat} (hk : k < l.length) : W.cell? ⟨B, k, none⟩ = some (.int .i64 (l.getD k 0)) := by
  rw [List.getD_eq_getElem?_getD, List.getElem?_eq_getElem hk]
  exact h.load (List.getElem?_eq_getElem hk)
theorem IntsAt.frozen {T : TypeId} {W : World} {B : Nat} {l : List Int} (h : IntsAt T W B l) (k : Nat) : W.frozen? ⟨B, k, none⟩ = false := by
  unfold IntsAt at h
  unfold World.frozen?
  rw [h]
  simp
theorem IntsAt.size {T : TypeId} {W : World} {B : Nat} {l : List Int} (h : IntsAt T W B l) : B < W.heap.size := (Array.getElem?_eq_some_iff.1 h).1
theorem IntsAt.store {T : TypeId} {W : World} {B : Nat} {l : List Int} (h : IntsAt T W B l) (k : Nat) (x : Int) : IntsAt T (W.setCell ⟨B, k, none⟩ (.int .i64 x)) B (l.set k x) := by
  have hlt := h.size
  unfold IntsAt at h ⊢
  simp only [World.setCell]
  rw [Array.getElem?_modify, if_pos rfl, h]
  simp [encZ_set]
theorem IntsAt.other {T : TypeId} {W : World} {B : Nat} {l : List Int} (h : IntsAt T W B l) (p : Addr) (v : Value) (hp : p.block ≠ B) : IntsAt T (W.setCell p v) B l := by
  unfold IntsAt at h ⊢
  rw [← h]
  exact Below.heap_setCell W p v B (fun e => hp e.symm)
theorem IntsAt.alloc {T : TypeId} {W : World} {B : Nat} {l : List Int} (h : IntsAt T W B l) (o : Obj) : IntsAt T (W.alloc o) B l := by
  have := h.size
  unfold IntsAt at h ⊢
  exact (Below.heap_alloc W o B this).trans h
theorem IntsAt.below {T : TypeId} {W W' : World} {B : Nat} {l : List Int} (h : IntsAt T W B l) (hb : Below W.heap.size W W') : IntsAt T W' B l := by
  have := h.size
  unfold IntsAt at h ⊢
  exact (hb.block B this).trans h
theorem IntsAt.belowN {T : TypeId} {W W' : World} {B N : Nat} {l : List Int} (h : IntsAt T W B l) (hB : B < N) (hb : Below N W W') : IntsAt T W' B l := by
  unfold IntsAt at h ⊢
  exact (hb.block B hB).trans h
theorem IntsAt.new {T : TypeId} (W : World) (l : List Int) : IntsAt T (W.alloc (.cells (encZ l) T (0, 0))) W.heap.size l := bk_new W _ rfl
theorem made_ints (n : Nat) : madeCells #[.int .i64 0] n = encZ (List.replicate n 0) := by
  apply Array.ext_getElem?
  intro j
  rw [encZ_get]
  by_cases hj : j < n
  · simp [madeCells, hj, Nat.mod_one]
  · simp [madeCells, hj]
end Go.Proofs

set_option linter.unusedSimpArgs false
set_option linter.unusedVariables false
namespace Go.Proofs
open Go.RowKit

/-- What is said abides whatever happens to blocks from 'B' on. -/
def Abide {β : Type} (B : Nat) (J : β → World → Prop) : Prop := ∀ s W W' row, J s W → W.grownBy W' row → (∀ r, row = some r → B ≤ r) → J s W'
/-- The blocks of cells that are none of 'M' lie as they lay. -/
structure Stay (M : Nat → Prop) (W W' : World) : Prop where
  size : W.heap.size ≤ W'.heap.size
  same : ∀ k c t f, ¬ M k → W.heap[k]? = some (.cells c t f) → W'.heap[k]? = some (.cells c t f)
theorem Stay.refl (M : Nat → Prop) (W : World) : Stay M W W := ⟨Nat.le_refl _, fun _ _ _ _ _ h => h⟩
theorem Stay.trans {M : Nat → Prop} {A B C : World} (h : Stay M A B) (k : Stay M B C) : Stay M A C := ⟨Nat.le_trans h.size k.size, fun i c t f hi hc => k.same i c t f hi (h.same i c t f hi hc)⟩
theorem Stay.putObj {M : Nat → Prop} {W : World} {l : Nat} {o : Obj} (o' : Obj) (h : W.heap[l]? = some o) (hc : o.isCells = false) : Stay M W (W.putObj l o') :=
  ⟨(grownBy_putObj' W l o').size, fun k c t f _ hk => by
    rw [(grownBy_putObj' W l o').block k (Array.getElem?_eq_some_iff.1 hk).1 (fun e => by
      injection e with e
      subst e
      rw [h] at hk
      injection hk with hk
      subst hk
      cases hc), hk]⟩

/-- AN ITERATOR's CONTRACT: it may keep cells of its own; the body of the loop turns no cells but those of the blocks 'M'. -/
def StopsC {α : Type} (F : Fence) (n : Nat) (P : Program) (g : Nat) (lb : Array Value) (encs : α → Array Value) (M : Nat → Prop) (Ok : List α → α → Prop) (S Sp : List α → Prop) (N : Nat) (w : World) : Prop :=
  ∀ (l : Nat) (J Jx : List α → World → Prop) (W : World), Below w.heap.size w W → Abide W.heap.size J → Abide W.heap.size Jx →
    (∀ pre x W1, J pre W1 → pre.length < N → Ok pre x → YieldAt F (n - 1) P l (encs x) W1 fun e W' =>
      (e = .returned (.bool true) ∧ J (pre ++ [x]) W' ∧ Stay M W1 W') ∨ (e = .returned (.bool false) ∧ Jx (pre ++ [x]) W' ∧ Stay M W1 W')) →
    J [] W →
    CallsIn F n P g (#[.func (.yield l) #[] #[]] ++ lb) W fun e W' => (∃ v, e = .returned v) ∧ ((∃ xs, S xs ∧ J xs W') ∨ (∃ pre, Sp pre ∧ Jx pre W'))

/-- How the body of a round may be left. -/
def outPost {α : Type} (M : Nat → Prop) (I : List α → World → Prop) (Ix : Code → List α → World → Prop) (xs : List α) (W : World) : Exit → Act → World → Prop
  | .normal, _, W' => KeepsOthers W W' ∧ Stay M W W' ∧ I xs W'
  | .ret, _, W' => KeepsOthers W W' ∧ Stay M W W' ∧ Ix .ret xs W'
  | .exit id, _, W' => KeepsOthers W W' ∧ Stay M W W' ∧ Ix (.exit id) xs W'
  | .goto t, _, W' => KeepsOthers W W' ∧ Stay M W W' ∧ Ix (.goto t) xs W'
  | .panic _, _, _ => False
  | .outgrown, _, _ => False

theorem abide_putObj {β : Type} {B : Nat} {J : β → World → Prop} (h : Abide B J) {s : β} {W : World} {l : Nat} (o : Obj) (hs : J s W) (hl : B ≤ l) : J s (W.putObj l o) :=
  h s W _ (some l) hs (grownBy_putObj' W l o) (fun r e => by cases e; exact hl)
theorem abide_alloc {β : Type} {B : Nat} {J : β → World → Prop} (h : Abide B J) {s : β} {W : World} (o : Obj) (hs : J s W) : J s (W.alloc o) :=
  h s W _ none hs ⟨rfl, rfl, rfl, by simp, fun k hk _ => Below.heap_alloc W o k hk⟩ (fun r e => by cases e)

theorem cell_putObj {W : World} {l k i : Nat} {o : Obj} {v : Value} (o' : Obj) (hl : W.heap[l]? = some o) (hc : o.isCells = false) (h : W.cell? ⟨k, i, none⟩ = some v) : (W.putObj l o').cell? ⟨k, i, none⟩ = some v := by
  have hne : k ≠ l := by
    rintro rfl
    unfold World.cell? at h
    simp only [hl] at h
    cases o <;> simp_all [Obj.isCells]
  have hk : k < W.heap.size := World.block_lt_of_cell? _ _ h
  rw [← h]
  exact World.cell?_of_block (a := ⟨k, i, none⟩) ((grownBy_putObj' W l o').block k hk (fun e => hne (by injection e)))
theorem frozen_putObj {W : World} {l k i : Nat} {o : Obj} {v : Value} (o' : Obj) (hl : W.heap[l]? = some o) (hc : o.isCells = false) (h : W.cell? ⟨k, i, none⟩ = some v) : (W.putObj l o').frozen? ⟨k, i, none⟩ = W.frozen? ⟨k, i, none⟩ := by
  have hne : k ≠ l := by
    rintro rfl
    unfold World.cell? at h
    simp only [hl] at h
    cases o <;> simp_all [Obj.isCells]
  have hk : k < W.heap.size := World.block_lt_of_cell? _ _ h
  exact World.frozen?_of_block (a := ⟨k, i, none⟩) ((grownBy_putObj' W l o').block k hk (fun e => hne (by injection e)))
theorem Stay.setCell {M : Nat → Prop} (W : World) {p : Addr} (u : Value) (hp : M p.block) : Stay M W (W.setCell p u) :=
  ⟨by simp, fun k c t f hk h => (Below.heap_setCell W p u k (fun e => hk (e ▸ hp))).trans h⟩
theorem abide_below {β : Type} {B : Nat} {J : β → World → Prop} (h : Abide B J) {s : β} {W W' : World} (hs : J s W) (hb : Below W.heap.size W W') : J s W' :=
  h s W W' none hs ⟨hb.os, hb.tape, hb.output, hb.size, fun k hk _ => hb.block k hk⟩ (fun r e => by cases e)
theorem abide_setCell {β : Type} {B : Nat} {J : β → World → Prop} (h : Abide B J) {s : β} {W : World} {p : Addr} (u : Value) (hs : J s W) (hp : B ≤ p.block) : J s (W.setCell p u) :=
  h s W _ (some p.block) hs ⟨rfl, rfl, rfl, by simp, fun k hk hne => Below.heap_setCell _ _ _ k (fun e => hne (by rw [e]))⟩ (fun r e => by cases e; exact hp)
theorem block_of_cell {W : World} {k o : Nat} {v : Value} (h : W.cell? ⟨k, o, none⟩ = some v) : ∃ c t f, W.heap[k]? = some (.cells c t f) := by
  unfold World.cell? at h
  cases ho : W.heap[k]? with
  | none => simp [ho] at h
  | some x => cases x with
    | cells c t f => exact ⟨c, t, f, rfl⟩
    | _ => simp [ho] at h
theorem Stay.cell {M : Nat → Prop} {W W' : World} (h : Stay M W W') {k o : Nat} {v : Value} (hk : ¬ M k) (hc : W.cell? ⟨k, o, none⟩ = some v) : W'.cell? ⟨k, o, none⟩ = some v := by
  obtain ⟨c, t, f, hb⟩ := block_of_cell hc
  have := h.same k c t f hk hb
  rw [← hc]
  exact World.cell?_of_block (a := ⟨k, o, none⟩) (this.trans hb.symm)
theorem Stay.frozen {M : Nat → Prop} {W W' : World} (h : Stay M W W') {k o : Nat} {v : Value} (hk : ¬ M k) (hc : W.cell? ⟨k, o, none⟩ = some v) : W'.frozen? ⟨k, o, none⟩ = W.frozen? ⟨k, o, none⟩ := by
  obtain ⟨c, t, f, hb⟩ := block_of_cell hc
  have := h.same k c t f hk hb
  exact World.frozen?_of_block (a := ⟨k, o, none⟩) (this.trans hb.symm)

variable {F : Fence} {n : Nat} {P : Program}

theorem wp_rangeC {α : Type} {g : Operand} {ps : Array Tmp} {assign body : Code} {Q : Exit → Act → World → Prop} {a : Act} {w : World}
    (hro : F.round = none) (h1 : 1 ≤ n) {gf : Nat} {lb : Array Value} (hg : a.eval g = .func (.func gf) #[] lb) (hFg : F.fn gf) (eg : ∀ args w, (callFunc gf args).run P w = .ok (.enter gf args) w)
    {encs : α → Array Value} {M : Nat → Prop} {Ok : List α → α → Prop} {S Sp : List α → Prop} {N : Nat} {w0 : World} (hseq : StopsC F (n - 1) P gf lb encs M Ok S Sp N w0) (hb0 : Below w0.heap.size w0 w)
    (hps : ∀ x, (encs x).size = ps.size)
    (I : List α → World → Prop) (Ix : Code → List α → World → Prop) (Ax : List α → α → Act → World → Prop)
    (hI : Abide w.heap.size I) (hIx : ∀ c, Abide w.heap.size (Ix c)) (hAx : ∀ pre x a (W : World) (l : Nat) (o o' : Obj), w.heap.size ≤ l → W.heap[l]? = some o → o.isCells = false → Ax pre x a W → Ax pre x a (W.putObj l o')) (h0 : I [] w)
    (hassign : ∀ (l : Nat) (pre : List α) (x : α) (W : World), I pre W → pre.length < N → Ok pre x →
      assign.wpIn (F.inRound l) (n - 1 - 1) P (Exit.then (fun a₁ W₁ => KeepsOthers W W₁ ∧ Stay M W W₁ ∧ Ax pre x a₁ W₁) (fun _ _ _ => False)) { tmps := (ps.zip (encs x)).foldl (fun t (p, v) => t.setIfInBounds p v) a.tmps, defers := [] } W)
    (hbody : ∀ (l : Nat) (pre : List α) (x : α) (a₁ : Act) (W : World), Ax pre x a₁ W → pre.length < N → Ok pre x → body.wpIn (F.inRound l) (n - 1 - 1) P (outPost M I Ix (pre ++ [x]) W) a₁ W)
    (hdone : ∀ (D : Nat) (xs : List α) (W : World), S xs → I xs W → D = w.heap.size → W.heap[D]? = some (.deferred (some [])) → Q .normal { a with defers := { target := .collected D, args := #[] } :: a.defers } W)
    (hstop : ∀ (D : Nat) (c : Code) (pre : List α) (W : World), Sp pre → Ix c pre W → D = w.heap.size → W.heap[D]? = some (.deferred (some [])) → c.wpIn F n P Q { a with defers := { target := .collected D, args := #[] } :: a.defers } W) :
    (Code.rangeFunc g ps assign body).wpIn F n P Q a w := by
  refine wpIn_rangeFunc ?_
  intro fn hfn
  rw [hro]
  obtain ⟨rec, hrec⟩ : ∃ rec : LoopState → Option Code → Loop, rec = fun st pe => { state := st, pending := pe, fn, tmps := a.tmps, params := ps, assign, body, defers := w.heap.size } := ⟨_, rfl⟩
  obtain ⟨W1, hW1⟩ : ∃ W1, (w.alloc (.deferred (some []))).alloc (.loop (rec .ready none)) = W1 := ⟨_, rfl⟩
  have hsz1 : W1.heap.size = w.heap.size + 2 := by rw [← hW1]; simp
  have hL1 : W1.heap[w.heap.size + 1]? = some (.loop (rec .ready none)) := by
    rw [← hW1]; have := World.alloc_heap_new (w.alloc (.deferred (some []))) (.loop (rec .ready none)); rwa [World.size_alloc] at this
  have hK1 : W1.heap[w.heap.size]? = some (.deferred (some [])) := by
    rw [← hW1]; exact (Below.heap_alloc _ _ _ (by simp)).trans (World.alloc_heap_new w _)
  have hI1 : I [] W1 := by rw [← hW1]; exact abide_alloc hI _ (abide_alloc hI _ h0)
  have hb1 : Below w0.heap.size w0 W1 := by
    rw [← hW1]; exact hb0.trans ((((Below.refl _ w).alloc (Nat.le_refl _) _).alloc (by simp) _).mono hb0.size)
  refine ⟨w.heap.size + 1, [{ target := .collected w.heap.size, args := #[] }], W1, { target := .fn (.func gf) lb, args := #[.func (.yield (w.heap.size + 1)) #[] #[]] }, W1, gf,
    #[.func (.yield (w.heap.size + 1)) #[] #[]] ++ lb, W1, ?_, ?_, ?_, ?_, fun _ => h1, ?_⟩
  · rw [← hW1, hrec]; exact run_enterLoop_outer _ _ _ _ _
  · simp only [resolve, hg]
    simp [go_sem]
  · intro f' hf'; simp [Target.leads] at hf'; subst hf'; exact hFg
  · simp [invoke, go_sem, eg]
  · have keep : ∀ {A B : World} {row : Option Nat} {k : Nat} {o : Obj}, A.grownBy B row → (∀ r, row = some r → W1.heap.size ≤ r) → k < w.heap.size + 2 → A.heap[k]? = some o → B.heap[k]? = some o := fun hg' hr hk ho => by
      rw [hg'.block _ (Array.getElem?_eq_some_iff.1 ho).1 (fun e => by have := hr _ e.symm; omega), ho]
    refine (hseq (w.heap.size + 1)
      (fun pre W => I pre W ∧ W.heap[w.heap.size + 1]? = some (.loop (rec .ready none)) ∧ W.heap[w.heap.size]? = some (.deferred (some [])))
      (fun pre W => ∃ c, Ix c pre W ∧ W.heap[w.heap.size + 1]? = some (.loop (rec .done (some c))) ∧ W.heap[w.heap.size]? = some (.deferred (some [])))
      W1 hb1
      (fun s A B row hs hg' hr => ⟨hI s A B row hs.1 hg' (fun r e => by have := hr r e; omega), keep hg' hr (by omega) hs.2.1, keep hg' hr (by omega) hs.2.2⟩)
      (fun s A B row hs hg' hr => by
        obtain ⟨c, hc, hl, hk⟩ := hs
        exact ⟨c, hIx c s A B row hc hg' (fun r e => by have := hr r e; omega), keep hg' hr (by omega) hl, keep hg' hr (by omega) hk⟩)
      ?_ ⟨hI1, hL1, hK1⟩).mono ?_
    · rintro pre x W ⟨hi, hl, hk⟩ hlen hokx
      have hy := run_yield (P := P) (args := encs x) hl (by rw [hrec]; exact hps x)
      rw [hrec] at hy
      refine ⟨fn, _, assign, body, hy, roundIn_of_wpIn hfn (wpIn_mono (hassign _ pre x W hi hlen hokx) ?_)⟩
      rintro e a2 W2 hp
      cases e with
      | normal =>
        obtain ⟨ko, st, hx⟩ := hp
        have hl2 := ko.same _ _ hl rfl
        have hk2 := ko.same _ _ hk rfl
        have hlt : w.heap.size + 1 < W2.heap.size := (Array.getElem?_eq_some_iff.1 hl2).1
        have hw2 : Stay M W2 (W2.putObj (w.heap.size + 1) (.loop { rec .ready none with state := .busy })) := Stay.putObj _ hl2 rfl
        have hl3 : (W2.putObj (w.heap.size + 1) (.loop { rec .ready none with state := .busy })).heap[w.heap.size + 1]? = some (.loop { rec .ready none with state := .busy }) := World.putObj_heap_same hlt
        have hk3 : (W2.putObj (w.heap.size + 1) (.loop { rec .ready none with state := .busy })).heap[w.heap.size]? = some (.deferred (some [])) := (World.putObj_heap_other (by omega)).trans hk2
        refine ⟨_, run_beginRound hl2 (by rw [hrec]), ?_⟩
        refine wpIn_mono (hbody _ pre x a2 _ (hAx pre x a2 _ _ _ _ (by omega) hl2 rfl hx) hlen hokx) ?_
        have fin : ∀ (jump : Option Code) (W3 : World), KeepsOthers (W2.putObj (w.heap.size + 1) (.loop { rec .ready none with state := .busy })) W3 →
            (Instr.endRound (w.heap.size + 1) jump).run P W3 = .ok (.bool jump.isNone) (W3.putObj (w.heap.size + 1) (.loop (rec (if jump.isNone then .ready else .done) jump))) ∧
            W3.heap[w.heap.size + 1]? = some (.loop { rec .ready none with state := .busy }) ∧
            (W3.putObj (w.heap.size + 1) (.loop (rec (if jump.isNone then .ready else .done) jump))).heap[w.heap.size + 1]? = some (.loop (rec (if jump.isNone then .ready else .done) jump)) ∧
            (W3.putObj (w.heap.size + 1) (.loop (rec (if jump.isNone then .ready else .done) jump))).heap[w.heap.size]? = some (.deferred (some [])) := fun jump W3 hk4 => by
          have hl4 := hk4.same _ _ hl3 rfl
          have := run_endRound (P := P) jump hl4
          rw [hrec] at this ⊢
          exact ⟨this, by rw [hrec] at hl4; exact hl4, World.putObj_heap_same (Array.getElem?_eq_some_iff.1 hl4).1, (World.putObj_heap_other (by omega)).trans (hk4.same _ _ hk3 rfl)⟩
        rintro e a3 W3 hp
        cases e with
        | normal =>
          obtain ⟨hk4, hkp3, hi3⟩ := hp
          obtain ⟨hr, hl3', hl4, hk5⟩ := fin none W3 hk4
          exact ⟨_, _, hr, .inl ⟨rfl, ⟨abide_putObj hI _ hi3 (by omega), hl4, hk5⟩, st.trans (hw2.trans (hkp3.trans (Stay.putObj _ hl3' rfl)))⟩⟩
        | ret =>
          obtain ⟨hk4, hkp3, hi3⟩ := hp
          obtain ⟨hr, hl3', hl4, hk5⟩ := fin (some .ret) W3 hk4
          exact ⟨_, _, hr, .inr ⟨rfl, ⟨.ret, abide_putObj (hIx _) _ hi3 (by omega), hl4, hk5⟩, st.trans (hw2.trans (hkp3.trans (Stay.putObj _ hl3' rfl)))⟩⟩
        | exit id =>
          obtain ⟨hk4, hkp3, hi3⟩ := hp
          obtain ⟨hr, hl3', hl4, hk5⟩ := fin (some (.exit id)) W3 hk4
          exact ⟨_, _, hr, .inr ⟨rfl, ⟨.exit id, abide_putObj (hIx _) _ hi3 (by omega), hl4, hk5⟩, st.trans (hw2.trans (hkp3.trans (Stay.putObj _ hl3' rfl)))⟩⟩
        | goto t =>
          obtain ⟨hk4, hkp3, hi3⟩ := hp
          obtain ⟨hr, hl3', hl4, hk5⟩ := fin (some (.goto t)) W3 hk4
          exact ⟨_, _, hr, .inr ⟨rfl, ⟨.goto t, abide_putObj (hIx _) _ hi3 (by omega), hl4, hk5⟩, st.trans (hw2.trans (hkp3.trans (Stay.putObj _ hl3' rfl)))⟩⟩
        | panic ch => exact hp.elim
        | outgrown => exact hp.elim
      | _ => exact hp.elim
    · rintro e W2 ⟨⟨v, rfl⟩, (⟨xs, hS, hi, hl, hk⟩ | ⟨pre, hSp, c, hi, hl, hk⟩)⟩
      · exact ⟨none, _, by have := run_endLoop (P := P) hl (by rw [hrec]; simp); rw [hrec] at this; exact this, hdone _ xs _ hS (abide_putObj hI _ hi (by omega)) rfl ((World.putObj_heap_other (by omega)).trans hk)⟩
      · exact ⟨some c, _, by have := run_endLoop (P := P) hl (by rw [hrec]; simp); rw [hrec] at this; exact this, hstop _ c pre _ hSp (abide_putObj (hIx c) _ hi (by omega)) rfl ((World.putObj_heap_other (by omega)).trans hk)⟩
end Go.Proofs

set_option linter.unusedSimpArgs false
set_option linter.unusedVariables false
namespace Go.Proofs
open Go.RowKit
theorem first2n (a b : Int) (w : World) {n : Nat} (hn : n = w.heap.size) : Calls Tryz.prog 35 #[.slice (some ⟨n, 0, none⟩) 2 2] (w.alloc (.cells #[.int .i64 a, .int .i64 b] 38)) fun e w' => e = .returned (.int .i64 (firstE [a, b])) ∧ w.alloc (.cells #[.int .i64 a, .int .i64 b] 38) = w' := by
  subst hn; exact first2 a b w
theorem first3n (a b c : Int) (w : World) {n : Nat} (hn : n = w.heap.size) : Calls Tryz.prog 35 #[.slice (some ⟨n, 0, none⟩) 3 3] (w.alloc (.cells #[.int .i64 a, .int .i64 b, .int .i64 c] 38)) fun e w' => e = .returned (.int .i64 (firstE [a, b, c])) ∧ w.alloc (.cells #[.int .i64 a, .int .i64 b, .int .i64 c] 38) = w' := by
  subst hn; exact first3 a b c w
theorem first4n (a b c d : Int) (w : World) {n : Nat} (hn : n = w.heap.size) : Calls Tryz.prog 35 #[.slice (some ⟨n, 0, none⟩) 4 4] (w.alloc (.cells #[.int .i64 a, .int .i64 b, .int .i64 c, .int .i64 d] 38)) fun e w' => e = .returned (.int .i64 (firstE [a, b, c, d])) ∧ w.alloc (.cells #[.int .i64 a, .int .i64 b, .int .i64 c, .int .i64 d] 38) = w' := by
  subst hn; exact first4 a b c d w
end Go.Proofs
