import Derived.RangeFuncKeeps
import Derived.RangeFuncLeaves
import Derived.Below
import Derived.Test.YtmnjoamkaapjcaaGreatMg14
import Derived.RangeFuncNested
import Derived.RangeFuncBound
import Derived.RangeFuncCalls
import Derived.Shelf.Abstract
import Derived.Shelf.RegionOpen
import Derived.OwnWalkIn
import Derived.TacticsInMore
import Derived.LoopNIn
import Derived.LoopIn
set_option linter.unusedSimpArgs false
set_option linter.unusedVariables false
namespace Go.Proofs
open Go.RowKit

/-- What is said abides whatever happens to blocks from 'B' on. -/
def Abide {β : Type} (B : Nat) (J : β → World → Prop) : Prop := ∀ s W W' row, J s W → W.grownBy W' row → (∀ r, row = some r → B ≤ r) → J s W'
/-- The blocks of cells that are none of 'M' lie as they lay. -/
structure Stay (M : Nat → Prop) (W W' : World) : Prop where
  size : W.heap.size ≤ W'.heap.size
  same : ∀ k c t f, ¬ M k → W.heap[k]? = some (.cells c t f) → W'.heap[k]? = some (.cells c t f)
theorem Stay.refl (M : Nat → Prop) (W : World) : Stay M W W := ⟨Nat.le_refl _, fun _ _ _ _ _ h => h⟩
theorem Stay.trans {M : Nat → Prop} {A B C : World} (h : Stay M A B) (k : Stay M B C) : Stay M A C := ⟨Nat.le_trans h.size k.size, fun i c t f hi hc => k.same i c t f hi (h.same i c t f hi hc)⟩
theorem Stay.putObj {M : Nat → Prop} {W : World} {l : Nat} {o : Obj} (o' : Obj) (h : W.heap[l]? = some o) (hc : o.isCells = false) : Stay M W (W.putObj l o') :=
  ⟨(grownBy_putObj' W l o').size, fun k c t f _ hk => by
    rw [(grownBy_putObj' W l o').block k (Array.getElem?_eq_some_iff.1 hk).1 (fun e => by
      injection e with e
      subst e
      rw [h] at hk
      injection hk with hk
      subst hk
      cases hc), hk]⟩

/-- AN ITERATOR's CONTRACT: it may keep cells of its own; the body of the loop turns no cells but those of the blocks 'M'. -/
def StopsC {α : Type} (F : Fence) (n : Nat) (P : Program) (g : Nat) (lb : Array Value) (encs : α → Array Value) (M : Nat → Prop) (Ok : List α → α → Prop) (S Sp : List α → Prop) (N : Nat) (w : World) : Prop :=
  ∀ (l : Nat) (J Jx : List α → World → Prop) (W : World), Below w.heap.size w W → Abide W.heap.size J → Abide W.heap.size Jx →
    (∀ pre x W1, J pre W1 → pre.length < N → Ok pre x → YieldAt F (n - 1) P l (encs x) W1 fun e W' =>
      (e = .returned (.bool true) ∧ J (pre ++ [x]) W' ∧ Stay M W1 W') ∨ (e = .returned (.bool false) ∧ Jx (pre ++ [x]) W' ∧ Stay M W1 W')) →
    J [] W →
    CallsIn F n P g (#[.func (.yield l) #[] #[]] ++ lb) W fun e W' => (∃ v, e = .returned v) ∧ ((∃ xs, S xs ∧ J xs W') ∨ (∃ pre, Sp pre ∧ Jx pre W'))

/-- How the body of a round may be left. -/
def outPost {α : Type} (M : Nat → Prop) (I : List α → World → Prop) (Ix : Code → List α → World → Prop) (xs : List α) (W : World) : Exit → Act → World → Prop
  | .normal, _, W' => KeepsOthers W W' ∧ Stay M W W' ∧ I xs W'
  | .ret, _, W' => KeepsOthers W W' ∧ Stay M W W' ∧ Ix .ret xs W'
  | .exit id, _, W' => KeepsOthers W W' ∧ Stay M W W' ∧ Ix (.exit id) xs W'
  | .goto t, _, W' => KeepsOthers W W' ∧ Stay M W W' ∧ Ix (.goto t) xs W'
  | .panic _, _, _ => False
  | .outgrown, _, _ => False

theorem abide_putObj {β : Type} {B : Nat} {J : β → World → Prop} (h : Abide B J) {s : β} {W : World} {l : Nat} (o : Obj) (hs : J s W) (hl : B ≤ l) : J s (W.putObj l o) :=
  h s W _ (some l) hs (grownBy_putObj' W l o) (fun r e => by cases e; exact hl)
theorem abide_alloc {β : Type} {B : Nat} {J : β → World → Prop} (h : Abide B J) {s : β} {W : World} (o : Obj) (hs : J s W) : J s (W.alloc o) :=
  h s W _ none hs ⟨rfl, rfl, rfl, by simp, fun k hk _ => Below.heap_alloc W o k hk⟩ (fun r e => by cases e)

theorem cell_putObj {W : World} {l k i : Nat} {o : Obj} {v : Value} (o' : Obj) (hl : W.heap[l]? = some o) (hc : o.isCells = false) (h : W.cell? ⟨k, i, none⟩ = some v) : (W.putObj l o').cell? ⟨k, i, none⟩ = some v := by
  have hne : k ≠ l := by
    rintro rfl
    unfold World.cell? at h
    simp only [hl] at h
    cases o <;> simp_all [Obj.isCells]
  have hk : k < W.heap.size := World.block_lt_of_cell? _ _ h
  rw [← h]
  exact World.cell?_of_block (a := ⟨k, i, none⟩) ((grownBy_putObj' W l o').block k hk (fun e => hne (by injection e)))
theorem frozen_putObj {W : World} {l k i : Nat} {o : Obj} {v : Value} (o' : Obj) (hl : W.heap[l]? = some o) (hc : o.isCells = false) (h : W.cell? ⟨k, i, none⟩ = some v) : (W.putObj l o').frozen? ⟨k, i, none⟩ = W.frozen? ⟨k, i, none⟩ := by
  have hne : k ≠ l := by
    rintro rfl
    unfold World.cell? at h
    simp only [hl] at h
    cases o <;> simp_all [Obj.isCells]
  have hk : k < W.heap.size := World.block_lt_of_cell? _ _ h
  exact World.frozen?_of_block (a := ⟨k, i, none⟩) ((grownBy_putObj' W l o').block k hk (fun e => hne (by injection e)))
theorem Stay.setCell {M : Nat → Prop} (W : World) {p : Addr} (u : Value) (hp : M p.block) : Stay M W (W.setCell p u) :=
  ⟨by simp, fun k c t f hk h => (Below.heap_setCell W p u k (fun e => hk (e ▸ hp))).trans h⟩
theorem abide_below {β : Type} {B : Nat} {J : β → World → Prop} (h : Abide B J) {s : β} {W W' : World} (hs : J s W) (hb : Below W.heap.size W W') : J s W' :=
  h s W W' none hs ⟨hb.os, hb.tape, hb.output, hb.size, fun k hk _ => hb.block k hk⟩ (fun r e => by cases e)
theorem abide_setCell {β : Type} {B : Nat} {J : β → World → Prop} (h : Abide B J) {s : β} {W : World} {p : Addr} (u : Value) (hs : J s W) (hp : B ≤ p.block) : J s (W.setCell p u) :=
  h s W _ (some p.block) hs ⟨rfl, rfl, rfl, by simp, fun k hk hne => Below.heap_setCell _ _ _ k (fun e => hne (by rw [e]))⟩ (fun r e => by cases e; exact hp)
theorem block_of_cell {W : World} {k o : Nat} {v : Value} (h : W.cell? ⟨k, o, none⟩ = some v) : ∃ c t f, W.heap[k]? = some (.cells c t f) := by
  unfold World.cell? at h
  cases ho : W.heap[k]? with
  | none => simp [ho] at h
  | some x => cases x with
    | cells c t f => exact ⟨c, t, f, rfl⟩
    | _ => simp [ho] at h
theorem Stay.cell {M : Nat → Prop} {W W' : World} (h : Stay M W W') {k o : Nat} {v : Value} (hk : ¬ M k) (hc : W.cell? ⟨k, o, none⟩ = some v) : W'.cell? ⟨k, o, none⟩ = some v := by
  obtain ⟨c, t, f, hb⟩ := block_of_cell hc
  have := h.same k c t f hk hb
  rw [← hc]
  exact World.cell?_of_block (a := ⟨k, o, none⟩) (this.trans hb.symm)
theorem Stay.frozen {M : Nat → Prop} {W W' : World} (h : Stay M W W') {k o : Nat} {v : Value} (hk : ¬ M k) (hc : W.cell? ⟨k, o, none⟩ = some v) : W'.frozen? ⟨k, o, none⟩ = W.frozen? ⟨k, o, none⟩ := by
  obtain ⟨c, t, f, hb⟩ := block_of_cell hc
  have := h.same k c t f hk hb
  exact World.frozen?_of_block (a := ⟨k, o, none⟩) (this.trans hb.symm)

variable {F : Fence} {n : Nat} {P : Program}

theorem wp_rangeC {α : Type} {g : Operand} {ps : Array Tmp} {assign body : Code} {Q : Exit → Act → World → Prop} {a : Act} {w : World}
    (hro : F.round = none) (h1 : 1 ≤ n) {gf : Nat} {lb : Array Value} (hg : a.eval g = .func (.func gf) #[] lb) (hFg : F.fn gf) (eg : ∀ args w, (callFunc gf args).run P w = .ok (.enter gf args) w)
    {encs : α → Array Value} {M : Nat → Prop} {Ok : List α → α → Prop} {S Sp : List α → Prop} {N : Nat} {w0 : World} (hseq : StopsC F (n - 1) P gf lb encs M Ok S Sp N w0) (hb0 : Below w0.heap.size w0 w)
    (hps : ∀ x, (encs x).size = ps.size)
    (I : List α → World → Prop) (Ix : Code → List α → World → Prop) (Ax : List α → α → Act → World → Prop)
    (hI : Abide w.heap.size I) (hIx : ∀ c, Abide w.heap.size (Ix c)) (hAx : ∀ pre x a (W : World) (l : Nat) (o o' : Obj), w.heap.size ≤ l → W.heap[l]? = some o → o.isCells = false → Ax pre x a W → Ax pre x a (W.putObj l o')) (h0 : I [] w)
    (hassign : ∀ (l : Nat) (pre : List α) (x : α) (W : World), I pre W → pre.length < N → Ok pre x →
      assign.wpIn (F.inRound l) (n - 1 - 1) P (Exit.then (fun a₁ W₁ => KeepsOthers W W₁ ∧ Stay M W W₁ ∧ Ax pre x a₁ W₁) (fun _ _ _ => False)) { tmps := (ps.zip (encs x)).foldl (fun t (p, v) => t.setIfInBounds p v) a.tmps, defers := [] } W)
    (hbody : ∀ (l : Nat) (pre : List α) (x : α) (a₁ : Act) (W : World), Ax pre x a₁ W → pre.length < N → Ok pre x → body.wpIn (F.inRound l) (n - 1 - 1) P (outPost M I Ix (pre ++ [x]) W) a₁ W)
    (hdone : ∀ (D : Nat) (xs : List α) (W : World), S xs → I xs W → D = w.heap.size → W.heap[D]? = some (.deferred (some [])) → Q .normal { a with defers := { target := .collected D, args := #[] } :: a.defers } W)
    (hstop : ∀ (D : Nat) (c : Code) (pre : List α) (W : World), Sp pre → Ix c pre W → D = w.heap.size → W.heap[D]? = some (.deferred (some [])) → c.wpIn F n P Q { a with defers := { target := .collected D, args := #[] } :: a.defers } W) :
    (Code.rangeFunc g ps assign body).wpIn F n P Q a w := by
  refine wpIn_rangeFunc ?_
  intro fn hfn
  rw [hro]
  obtain ⟨rec, hrec⟩ : ∃ rec : LoopState → Option Code → Loop, rec = fun st pe => { state := st, pending := pe, fn, tmps := a.tmps, params := ps, assign, body, defers := w.heap.size } := ⟨_, rfl⟩
  obtain ⟨W1, hW1⟩ : ∃ W1, (w.alloc (.deferred (some []))).alloc (.loop (rec .ready none)) = W1 := ⟨_, rfl⟩
  have hsz1 : W1.heap.size = w.heap.size + 2 := by rw [← hW1]; simp
  have hL1 : W1.heap[w.heap.size + 1]? = some (.loop (rec .ready none)) := by
    rw [← hW1]; have := World.alloc_heap_new (w.alloc (.deferred (some []))) (.loop (rec .ready none)); rwa [World.size_alloc] at this
  have hK1 : W1.heap[w.heap.size]? = some (.deferred (some [])) := by
    rw [← hW1]; exact (Below.heap_alloc _ _ _ (by simp)).trans (World.alloc_heap_new w _)
  have hI1 : I [] W1 := by rw [← hW1]; exact abide_alloc hI _ (abide_alloc hI _ h0)
  have hb1 : Below w0.heap.size w0 W1 := by
    rw [← hW1]; exact hb0.trans ((((Below.refl _ w).alloc (Nat.le_refl _) _).alloc (by simp) _).mono hb0.size)
  refine ⟨w.heap.size + 1, [{ target := .collected w.heap.size, args := #[] }], W1, { target := .fn (.func gf) lb, args := #[.func (.yield (w.heap.size + 1)) #[] #[]] }, W1, gf,
    #[.func (.yield (w.heap.size + 1)) #[] #[]] ++ lb, W1, ?_, ?_, ?_, ?_, fun _ => h1, ?_⟩
  · rw [← hW1, hrec]; exact run_enterLoop_outer _ _ _ _ _
  · simp only [resolve, hg]
    simp [go_sem]
  · intro f' hf'; simp [Target.leads] at hf'; subst hf'; exact hFg
  · simp [invoke, go_sem, eg]
  · have keep : ∀ {A B : World} {row : Option Nat} {k : Nat} {o : Obj}, A.grownBy B row → (∀ r, row = some r → W1.heap.size ≤ r) → k < w.heap.size + 2 → A.heap[k]? = some o → B.heap[k]? = some o := fun hg' hr hk ho => by
      rw [hg'.block _ (Array.getElem?_eq_some_iff.1 ho).1 (fun e => by have := hr _ e.symm; omega), ho]
    refine (hseq (w.heap.size + 1)
      (fun pre W => I pre W ∧ W.heap[w.heap.size + 1]? = some (.loop (rec .ready none)) ∧ W.heap[w.heap.size]? = some (.deferred (some [])))
      (fun pre W => ∃ c, Ix c pre W ∧ W.heap[w.heap.size + 1]? = some (.loop (rec .done (some c))) ∧ W.heap[w.heap.size]? = some (.deferred (some [])))
      W1 hb1
      (fun s A B row hs hg' hr => ⟨hI s A B row hs.1 hg' (fun r e => by have := hr r e; omega), keep hg' hr (by omega) hs.2.1, keep hg' hr (by omega) hs.2.2⟩)
      (fun s A B row hs hg' hr => by
        obtain ⟨c, hc, hl, hk⟩ := hs
        exact ⟨c, hIx c s A B row hc hg' (fun r e => by have := hr r e; omega), keep hg' hr (by omega) hl, keep hg' hr (by omega) hk⟩)
      ?_ ⟨hI1, hL1, hK1⟩).mono ?_
    · rintro pre x W ⟨hi, hl, hk⟩ hlen hokx
      have hy := run_yield (P := P) (args := encs x) hl (by rw [hrec]; exact hps x)
      rw [hrec] at hy
      refine ⟨fn, _, assign, body, hy, roundIn_of_wpIn hfn (wpIn_mono (hassign _ pre x W hi hlen hokx) ?_)⟩
      rintro e a2 W2 hp
      cases e with
      | normal =>
        obtain ⟨ko, st, hx⟩ := hp
        have hl2 := ko.same _ _ hl rfl
        have hk2 := ko.same _ _ hk rfl
        have hlt : w.heap.size + 1 < W2.heap.size := (Array.getElem?_eq_some_iff.1 hl2).1
        have hw2 : Stay M W2 (W2.putObj (w.heap.size + 1) (.loop { rec .ready none with state := .busy })) := Stay.putObj _ hl2 rfl
        have hl3 : (W2.putObj (w.heap.size + 1) (.loop { rec .ready none with state := .busy })).heap[w.heap.size + 1]? = some (.loop { rec .ready none with state := .busy }) := World.putObj_heap_same hlt
        have hk3 : (W2.putObj (w.heap.size + 1) (.loop { rec .ready none with state := .busy })).heap[w.heap.size]? = some (.deferred (some [])) := (World.putObj_heap_other (by omega)).trans hk2
        refine ⟨_, run_beginRound hl2 (by rw [hrec]), ?_⟩
        refine wpIn_mono (hbody _ pre x a2 _ (hAx pre x a2 _ _ _ _ (by omega) hl2 rfl hx) hlen hokx) ?_
        have fin : ∀ (jump : Option Code) (W3 : World), KeepsOthers (W2.putObj (w.heap.size + 1) (.loop { rec .ready none with state := .busy })) W3 →
            (Instr.endRound (w.heap.size + 1) jump).run P W3 = .ok (.bool jump.isNone) (W3.putObj (w.heap.size + 1) (.loop (rec (if jump.isNone then .ready else .done) jump))) ∧
            W3.heap[w.heap.size + 1]? = some (.loop { rec .ready none with state := .busy }) ∧
            (W3.putObj (w.heap.size + 1) (.loop (rec (if jump.isNone then .ready else .done) jump))).heap[w.heap.size + 1]? = some (.loop (rec (if jump.isNone then .ready else .done) jump)) ∧
            (W3.putObj (w.heap.size + 1) (.loop (rec (if jump.isNone then .ready else .done) jump))).heap[w.heap.size]? = some (.deferred (some [])) := fun jump W3 hk4 => by
          have hl4 := hk4.same _ _ hl3 rfl
          have := run_endRound (P := P) jump hl4
          rw [hrec] at this ⊢
          exact ⟨this, by rw [hrec] at hl4; exact hl4, World.putObj_heap_same (Array.getElem?_eq_some_iff.1 hl4).1, (World.putObj_heap_other (by omega)).trans (hk4.same _ _ hk3 rfl)⟩
        rintro e a3 W3 hp
        cases e with
        | normal =>
          obtain ⟨hk4, hkp3, hi3⟩ := hp
          obtain ⟨hr, hl3', hl4, hk5⟩ := fin none W3 hk4
          exact ⟨_, _, hr, .inl ⟨rfl, ⟨abide_putObj hI _ hi3 (by omega), hl4, hk5⟩, st.trans (hw2.trans (hkp3.trans (Stay.putObj _ hl3' rfl)))⟩⟩
        | ret =>
          obtain ⟨hk4, hkp3, hi3⟩ := hp
          obtain ⟨hr, hl3', hl4, hk5⟩ := fin (some .ret) W3 hk4
          exact ⟨_, _, hr, .inr ⟨rfl, ⟨.ret, abide_putObj (hIx _) _ hi3 (by omega), hl4, hk5⟩, st.trans (hw2.trans (hkp3.trans (Stay.putObj _ hl3' rfl)))⟩⟩
        | exit id =>
          obtain ⟨hk4, hkp3, hi3⟩ := hp
          obtain ⟨hr, hl3', hl4, hk5⟩ := fin (some (.exit id)) W3 hk4
          exact ⟨_, _, hr, .inr ⟨rfl, ⟨.exit id, abide_putObj (hIx _) _ hi3 (by omega), hl4, hk5⟩, st.trans (hw2.trans (hkp3.trans (Stay.putObj _ hl3' rfl)))⟩⟩
        | goto t =>
          obtain ⟨hk4, hkp3, hi3⟩ := hp
          obtain ⟨hr, hl3', hl4, hk5⟩ := fin (some (.goto t)) W3 hk4
          exact ⟨_, _, hr, .inr ⟨rfl, ⟨.goto t, abide_putObj (hIx _) _ hi3 (by omega), hl4, hk5⟩, st.trans (hw2.trans (hkp3.trans (Stay.putObj _ hl3' rfl)))⟩⟩
        | panic ch => exact hp.elim
        | outgrown => exact hp.elim
      | _ => exact hp.elim
    · rintro e W2 ⟨⟨v, rfl⟩, (⟨xs, hS, hi, hl, hk⟩ | ⟨pre, hSp, c, hi, hl, hk⟩)⟩
      · exact ⟨none, _, by have := run_endLoop (P := P) hl (by rw [hrec]; simp); rw [hrec] at this; exact this, hdone _ xs _ hS (abide_putObj hI _ hi (by omega)) rfl ((World.putObj_heap_other (by omega)).trans hk)⟩
      · exact ⟨some c, _, by have := run_endLoop (P := P) hl (by rw [hrec]; simp); rw [hrec] at this; exact this, hstop _ c pre _ hSp (abide_putObj (hIx c) _ hi (by omega)) rfl ((World.putObj_heap_other (by omega)).trans hk)⟩
end Go.Proofs

set_option linter.unusedSimpArgs false
set_option linter.unusedVariables false
namespace Go.Proofs
open Go.RowKit
attribute [local go_sem] Oper.semAt_some

/-- The root, bit by bit. -/
def rootGo (n : Int) : Nat → Int → Int
  | 0, r => r
  | t + 1, r => if (r + 2 ^ t) * (r + 2 ^ t) ≤ n then rootGo n t (r + 2 ^ t) else rootGo n t r
def rt (n : Int) : Int := rootGo n 31 0
theorem rootGo_is (n : Int) : ∀ (t : Nat) (r : Int), 0 ≤ r → r * r ≤ n → n < (r + 2 ^ t) * (r + 2 ^ t) → IsRoot n (rootGo n t r)
  | 0, r, h0, h1, h2 => ⟨h0, h1, by simpa [rootGo] using h2⟩
  | t + 1, r, h0, h1, h2 => by
    have hp : (0 : Int) < 2 ^ t := Int.pow_pos (by omega)
    have e : r + 2 ^ (t + 1) = r + 2 ^ t + 2 ^ t := by rw [Int.pow_succ]; omega
    unfold rootGo
    split
    · rename_i h
      exact rootGo_is n t _ (by omega) h (by rw [← e]; exact h2)
    · rename_i h
      exact rootGo_is n t r h0 h1 (by omega)
theorem rt_is (n : Int) (h0 : 0 ≤ n) (h1 : n ≤ 1000000000000000000) : IsRoot n (rt n) := rootGo_is n 31 0 (by omega) (by omega) (by
  have : ((0 : Int) + 2 ^ 31) * (0 + 2 ^ 31) = 4611686018427387904 := by decide
  omega)

/-- The width at a height. -/
def wq (c y : Int) : Int := 4 * (c * c - y * y)
def wLo (c y : Int) : Int := rt (wq c y)
def wHi (c y : Int) : Int := up (wq c y) (rt (wq c y))
theorem wq_bd (c y : Int) (hc : 0 ≤ c) (hc2 : c ≤ 1000) (h1 : -c ≤ y) (h2 : y ≤ c) : 0 ≤ wq c y ∧ wq c y ≤ 4000000 := by
  unfold wq
  have a : 0 ≤ (c - y) * (c + y) := Int.mul_nonneg (by omega) (by omega)
  have b : (c - y) * (c + y) = c * c - y * y := by rw [Int.sub_mul, Int.mul_add, Int.mul_add, Int.mul_comm y c]; omega
  have d : c * c ≤ 1000 * 1000 := sq_mono hc hc2
  have f : 0 ≤ y * y := by
    rcases Int.le_total 0 y with h | h
    · exact Int.mul_nonneg h h
    · exact Int.mul_nonneg_of_nonpos_of_nonpos h h
  omega

set_option maxHeartbeats 400000 in
theorem width_any (c y : Int) (w : World) (hc : 0 ≤ c) (hc2 : c ≤ 1000) (h1 : -c ≤ y) (h2 : y ≤ c) :
    Calls Tryz.prog 97 #[.int .i64 c, .int .i64 y] w fun e w' => e = .returned (.agg #[.int .i64 (wLo c y), .int .i64 (wHi c y)]) ∧ Below w.heap.size w w' := by
  obtain ⟨hq0, hq1⟩ := wq_bd c y hc hc2 h1 h2
  have hR := fun W => root_any (wq c y) (rt (wq c y)) W hq0 (by omega) (rt_is _ hq0 (by omega))
  unfold wLo wHi
  generalize rt (wq c y) = r at *
  unfold wq at *
  have hcc0 : 0 ≤ c * c := Int.mul_nonneg hc hc
  have hcc1 : c * c ≤ 1000 * 1000 := sq_mono hc hc2
  obtain ⟨cc, hcc⟩ : ∃ cc, c * c = cc := ⟨_, rfl⟩
  obtain ⟨yy, hyy⟩ : ∃ yy, y * y = yy := ⟨_, rfl⟩
  have hyy0 : 0 ≤ y * y := by
    rcases Int.le_total 0 y with h | h
    · exact Int.mul_nonneg h h
    · exact Int.mul_nonneg_of_nonpos_of_nonpos h h
  have hyy1 : y * y ≤ 1000 * 1000 := by omega
  have hR' := Lib.hid hR
  clear hR hcc hyy
  generalize up (4 * (c * c - y * y)) r = u at *
  go_enter Tryz.func97, Tryz.ntmps97
  go_wp2_with (go_at_call 106; refine (hR'.out _).mono ?_; rintro e w1 ⟨rfl, hb⟩; have hcc := gcell hb; have hff := gfrozen hb; have hz0 : w.heap.size < w1.heap.size := (by have := hb.size; simp at this; omega))
  refine bodyPost_ret (v := .agg #[.int .i64 r, .int .i64 u]) ?_ rfl ⟨rfl, ?_⟩
  · simp [results, Tryz.results97, go_sem, hcc, hff, hz0]
  · have hbw := via (by go_grown : Below w.heap.size w _) hb
    go_grown

/-- The area of the strip number 'i' from below. -/
def strip (c : Int) (i : Nat) : Int × Int := (min (wLo c (-c + i)) (wLo c (-c + i + 1)), max (wHi c (-c + i)) (wHi c (-c + i + 1)))
def strips (c : Int) (k : Nat) : List (Int × Int) := (List.range k).map (strip c)
theorem strips_succ (c : Int) (k : Nat) : strips c (k + 1) = strips c k ++ [strip c k] := by unfold strips; rw [List.range_succ, List.map_append]; rfl
theorem strips_len (c : Int) (k : Nat) : (strips c k).length = k := by unfold strips; simp

set_option maxRecDepth 100000 in
set_option maxHeartbeats 2000000 in
theorem slices_stops (n : Nat) (c lv : Int) (B1 B2 : Nat) (M : Nat → Prop) (w : World) (hn : 1 ≤ n) (hc0 : 0 ≤ c) (hc1 : c ≤ 1000) (hl0 : -1000 ≤ lv) (hl1 : lv ≤ c)
    (h1 : w.cell? ⟨B1, 0, none⟩ = some (.int .i64 c)) (h2 : w.cell? ⟨B2, 0, none⟩ = some (.int .i64 lv)) (hM1 : ¬ M B1) (hM2 : ¬ M B2) (hM : ∀ k, M k → k < w.heap.size) :
    StopsC Fence.wide n Tryz.prog 96 #[.pointer (some ⟨B1, 0, none⟩), .pointer (some ⟨B2, 0, none⟩)] (fun x : Int × Int => #[.agg #[.int .i64 x.1, .int .i64 x.2]]) M (fun pre x => pre = strips c pre.length ∧ x = strip c pre.length)
      (fun xs => xs = strips c (lv + c).toNat) (fun _ => True) (lv + c).toNat w := by
  intro l J Jx W hW hJ hJx hY h0
  have g1 : W.cell? ⟨B1, 0, none⟩ = some (.int .i64 c) := (hW.cell (p := ⟨B1, 0, none⟩) (World.block_lt_of_cell? _ _ h1)).trans h1
  have g2 : W.cell? ⟨B2, 0, none⟩ = some (.int .i64 lv) := (hW.cell (p := ⟨B2, 0, none⟩) (World.block_lt_of_cell? _ _ h2)).trans h2
  clear h1 h2
  have hws := hW.size
  refine callsIn_of_wp Tryz.func96 rfl trivial ?_
  simp only [Tryz.ntmps96, List.size_toArray, List.length_cons, List.length_nil, Nat.reduceAdd, Nat.reduceSub, Array.replicate_succ, Array.replicate_zero, List.push_toArray, List.append_toArray, List.nil_append, List.cons_append]
  have hB1 : B1 < W.heap.size := World.block_lt_of_cell? _ _ g1
  have hB2 : B2 < W.heap.size := World.block_lt_of_cell? _ _ g2
  gi_wp2_with (refine ⟨trivial, ?_⟩; gi_at_call 97; refine (callsIn_wide.2 (width_any c (-c) _ hc0 hc1 (by omega) (by omega))).mono ?_; rintro e w1 ⟨rfl, hb1⟩; have k1 := (gcell hb1 B1 0 hB1).trans g1; have k2 := (gcell hb1 B2 0 hB2).trans g2; have hB1' : B1 < w1.heap.size := (by have := hb1.size; omega); have hB2' : B2 < w1.heap.size := (by have := hb1.size; omega))
  have hG := hb1.size
  obtain ⟨G, hGe⟩ : ∃ G, w1.heap.size = G := ⟨_, rfl⟩
  have hJ1 := abide_alloc hJ (.cells #[.int .i64 (wLo c (-c)), .int .i64 (wHi c (-c))] 23) (abide_below hJ h0 hb1)
  have k1' : (w1.alloc (.cells #[.int .i64 (wLo c (-c)), .int .i64 (wHi c (-c))] 23)).cell? ⟨B1, 0, none⟩ = some (.int .i64 c) := by rw [World.cell?_alloc_past _ _ _ (by omega)]; exact k1
  have k2' : (w1.alloc (.cells #[.int .i64 (wLo c (-c)), .int .i64 (wHi c (-c))] 23)).cell? ⟨B2, 0, none⟩ = some (.int .i64 lv) := by rw [World.cell?_alloc_past _ _ _ (by omega)]; exact k2
  have k3' : (w1.alloc (.cells #[.int .i64 (wLo c (-c)), .int .i64 (wHi c (-c))] 23)).cell? ⟨G, 0, none⟩ = some (.int .i64 (wLo c (-c + ((0 : Nat) : Int)))) := by rw [World.cell?_alloc_at _ _ _ _ hGe.symm]; simp
  have k4' : (w1.alloc (.cells #[.int .i64 (wLo c (-c)), .int .i64 (wHi c (-c))] 23)).cell? ⟨G, 1, none⟩ = some (.int .i64 (wHi c (-c + ((0 : Nat) : Int)))) := by rw [World.cell?_alloc_at _ _ _ _ hGe.symm]; simp
  have k5' : (w1.alloc (.cells #[.int .i64 (wLo c (-c)), .int .i64 (wHi c (-c))] 23)).frozen? ⟨G, 0, none⟩ = false := World.frozen?_alloc_at _ _ _ _ hGe.symm
  have k6' : (w1.alloc (.cells #[.int .i64 (wLo c (-c)), .int .i64 (wHi c (-c))] 23)).frozen? ⟨G, 1, none⟩ = false := World.frozen?_alloc_at _ _ _ _ hGe.symm
  have hGs : G < (w1.alloc (.cells #[.int .i64 (wLo c (-c)), .int .i64 (wHi c (-c))] 23)).heap.size := by simp; omega
  rw [hGe]
  generalize w1.alloc (.cells #[.int .i64 (wLo c (-c)), .int .i64 (wHi c (-c))] 23) = w2 at *
  have hGM : ¬ M G := fun h => by have := hM G h; omega
  have hMl := Lib.hid hM
  have hM1' := Lib.hid hM1
  have hM2' := Lib.hid hM2
  have hGM' := Lib.hid hGM
  have hY' := Lib.hid hY
  have hGW : W.heap.size ≤ G := by omega
  clear hB1' hB2' k1 k2 h0 g1 g2 hb1 hGe hG hM hM1 hM2 hGM hY w1 hW hJx
  gi_loopw [5] (fun y wr => ∃ k : Nat, k ≤ (lv + c).toNat ∧ y = .int .i64 (-c + k) ∧ J (strips c k) wr ∧ wr.cell? ⟨B1, 0, none⟩ = some (.int .i64 c) ∧ wr.cell? ⟨B2, 0, none⟩ = some (.int .i64 lv) ∧
      wr.cell? ⟨G, 0, none⟩ = some (.int .i64 (wLo c (-c + k))) ∧ wr.cell? ⟨G, 1, none⟩ = some (.int .i64 (wHi c (-c + k))) ∧ wr.frozen? ⟨G, 0, none⟩ = false ∧ wr.frozen? ⟨G, 1, none⟩ = false ∧ G < wr.heap.size)
    (fun y _ => (lv - intOf y).toNat)
  case atStart => exact ⟨0, Nat.zero_le _, by simp, hJ1, k1', k2', k3', k4', k5', k6', hGs⟩
  case round =>
    clear k1' k2' k3' k4' k5' k6' hGs hJ1
    obtain ⟨k, hk, rfl, hJk, c1, c2, c3, c4, c5, c6, hGr⟩ := hrel
    by_cases hlt : -c + (k : Int) < lv
    · have hJk' := Lib.hid hJk
      clear hJk
      have hB1r : B1 < wr.heap.size := World.block_lt_of_cell? _ _ c1
      have hB2r : B2 < wr.heap.size := World.block_lt_of_cell? _ _ c2
      have hWy := fun W m => (callsIn_wide (n := m)).2 (width_any c (-c + k + 1) W hc0 hc1 (by omega) (by omega))
      obtain ⟨lo1, hlo1⟩ : ∃ x, wLo c (-c + k) = x := ⟨_, rfl⟩
      obtain ⟨hi1, hhi1⟩ : ∃ x, wHi c (-c + k) = x := ⟨_, rfl⟩
      obtain ⟨lo2, hlo2⟩ : ∃ x, wLo c (-c + k + 1) = x := ⟨_, rfl⟩
      obtain ⟨hi2, hhi2⟩ : ∃ x, wHi c (-c + k + 1) = x := ⟨_, rfl⟩
      have hst : strip c k = (min lo1 lo2, max hi1 hi2) := by unfold strip; rw [hlo1, hlo2, hhi1, hhi2]
      have hc4 : (strip c k = (lo1, hi1) ∧ lo1 ≤ lo2 ∧ hi2 ≤ hi1) ∨ (strip c k = (lo1, hi2) ∧ lo1 ≤ lo2 ∧ hi1 < hi2) ∨ (strip c k = (lo2, hi1) ∧ lo2 < lo1 ∧ hi2 ≤ hi1) ∨ (strip c k = (lo2, hi2) ∧ lo2 < lo1 ∧ hi1 < hi2) := by
        rw [hst]
        rcases Int.lt_or_le lo2 lo1 with a | a <;> rcases Int.lt_or_le hi1 hi2 with b | b
        · right; right; right; exact ⟨by rw [Int.min_eq_right (by omega), Int.max_eq_right (by omega)], a, b⟩
        · right; right; left; exact ⟨by rw [Int.min_eq_right (by omega), Int.max_eq_left (by omega)], a, b⟩
        · right; left; exact ⟨by rw [Int.min_eq_left (by omega), Int.max_eq_right (by omega)], a, b⟩
        · left; exact ⟨by rw [Int.min_eq_left (by omega), Int.max_eq_left (by omega)], a, b⟩
      have hn2 : Hid (wLo c (-c + ((k + 1 : Nat) : Int)) = lo2 ∧ wHi c (-c + ((k + 1 : Nat) : Int)) = hi2) := by
        unfold Hid; rw [show -c + ((k + 1 : Nat) : Int) = -c + k + 1 by omega]; exact ⟨hlo2, hhi2⟩
      rw [hlo1] at c3
      rw [hhi1] at c4
      rw [hlo2, hhi2] at hWy
      have hWy' := Lib.hid hWy
      clear hlo1 hhi1 hlo2 hhi2 hWy
      have hlen : (strips c k).length < (lv + c).toNat := by rw [strips_len]; omega
      have hlen' := Lib.hid hlen
      clear hlen
      rcases hc4 with ⟨hst, ha, hb⟩ | ⟨hst, ha, hb⟩ | ⟨hst, ha, hb⟩ | ⟨hst, ha, hb⟩
      all_goals
        have hst3 := Lib.hid hst
        clear hst
        gi_wp2_with (refine ⟨trivial, ?_⟩; gi_at_call 97; refine (hWy'.out _ _).mono ?_; rintro e w3 ⟨rfl, hb3⟩; have d1 := (gcell hb3 B1 0 hB1r).trans c1; have d2 := (gcell hb3 B2 0 hB2r).trans c2; have d3 := (gcell hb3 G 0 hGr).trans c3; have d4 := (gcell hb3 G 1 hGr).trans c4; have d5 := (gfrozen hb3 G 0 hGr).trans c5; have d6 := (gfrozen hb3 G 1 hGr).trans c6; have hs3 := hb3.size; have hG3 : G < w3.heap.size := (by omega); have hB13 : B1 < w3.heap.size := (by omega); have hB23 : B2 < w3.heap.size := (by omega); obtain ⟨fn, tmps, assign, body, hy, hR⟩ := hY'.out (strips c k) (strip c k) (w3.alloc (.cells #[.int .i64 lo2, .int .i64 hi2] 23)) (abide_alloc hJ _ (abide_below hJ hJk'.out hb3)) hlen'.out (by rw [strips_len]; exact ⟨rfl, rfl⟩); rw [hst3.out] at hy hR; have hR' := Lib.hid hR; clear hR)
        refine hR'.out.mono ?_
        rintro e w4 (⟨rfl, hJ4, hk4⟩ | ⟨rfl, hJx4, hk4⟩)
        · have hJ5 : J (strips c (k + 1)) w4 := by rw [strips_succ, hst3.out]; exact hJ4
          have hM3 : ¬ M w3.heap.size := fun h => by have := hMl.out _ h; omega
          have e1 := hk4.cell (k := w3.heap.size) (o := 0) (v := .int .i64 lo2) hM3 (by rw [World.cell?_alloc_at _ _ _ _ rfl] <;> rfl)
          have e2 := hk4.cell (k := w3.heap.size) (o := 1) (v := .int .i64 hi2) hM3 (by rw [World.cell?_alloc_at _ _ _ _ rfl] <;> rfl)
          have e3 := hk4.cell (k := B1) (o := 0) hM1'.out (by rw [World.cell?_alloc_past _ _ _ hB13]; exact d1)
          have e4 := hk4.cell (k := B2) (o := 0) hM2'.out (by rw [World.cell?_alloc_past _ _ _ hB23]; exact d2)
          have e5 := hk4.cell (k := G) (o := 0) hGM'.out (by rw [World.cell?_alloc_past _ _ _ hG3]; exact d3)
          have e6 := hk4.cell (k := G) (o := 1) hGM'.out (by rw [World.cell?_alloc_past _ _ _ hG3]; exact d4)
          have e7 : w4.frozen? ⟨G, 0, none⟩ = false := (hk4.frozen (k := G) (o := 0) hGM'.out (by rw [World.cell?_alloc_past _ _ _ hG3]; exact d3)).trans (by rw [World.frozen?_alloc_past _ _ _ hG3]; exact d5)
          have e8 : w4.frozen? ⟨G, 1, none⟩ = false := (hk4.frozen (k := G) (o := 1) hGM'.out (by rw [World.cell?_alloc_past _ _ _ hG3]; exact d4)).trans (by rw [World.frozen?_alloc_past _ _ _ hG3]; exact d6)
          have hG4 : G < w4.heap.size := World.block_lt_of_cell? _ _ e5
          have hB14 : ¬ B1 = G := by omega
          have hB24 : ¬ B2 = G := by omega
          have hJ5' := Lib.hid hJ5
          clear hk4 hJ4 hJ5 hy hR' c1 c2 c3 c4 c5 c6 d1 d2 d3 d4 d5 d6 hb3
          gi_wp2
          go_roundw
          case rel => exact ⟨k + 1, by omega, by congr 1; omega, abide_setCell hJ _ (abide_setCell hJ _ hJ5'.out hGW) hGW, by simp [go_sem, e3, hB14], by simp [go_sem, e4, hB24], by rw [hn2.out.1]; simp [go_sem, e5], by rw [hn2.out.2]; simp [go_sem, e6], by simp [go_sem, e7], by simp [go_sem, e8], by simpa using hG4⟩
          case measure => simp [intOf]; omega
        · have hJ5' := Lib.hid hJx4
          clear hk4 hJx4 hy hR' c1 c2 c3 c4 c5 c6 d1 d2 d3 d4 d5 d6 hb3
          gi_wp2
          refine bodyPost_ret (results_none rfl _ _ _) rfl ?_
          exact ⟨⟨_, rfl⟩, .inr ⟨_, trivial, hJ5'.out⟩⟩
    · have hkk : k = (lv + c).toNat := by omega
      have hkk' := Lib.hid hkk
      have hJk' := Lib.hid hJk
      clear hkk hJk
      gi_wp2
      go_end0
      exact ⟨⟨_, rfl⟩, .inl (by rw [← hkk'.out]; exact hJk'.out)⟩

theorem slices_any (c lv : Int) (w : World) :
    Calls Tryz.prog 66 #[.int .i64 c, .int .i64 lv] w fun e w' => e = .returned (.func (.func 96) #[] #[.pointer (some ⟨w.heap.size, 0, none⟩), .pointer (some ⟨w.heap.size + 1, 0, none⟩)]) ∧
      (w.alloc (.cells #[.int .i64 c] 91)).alloc (.cells #[.int .i64 lv] 3) = w' := by
  have hmf : ∀ (fn : Fn) (first cap : Array Value) (w : World), (Instr.makeFunc fn first cap).run Tryz.prog w = .ok (.func fn first cap) w := fun _ _ _ _ => rfl
  go_enter Tryz.func66, Tryz.ntmps66
  go_wp2
  go_ret
  exact ⟨rfl, rfl⟩

def addA (o a : Int × Int) : Int × Int := (o.1 + a.1, o.2 + a.2)
def sumA (l : List (Int × Int)) : Int × Int := l.foldl addA (0, 0)
theorem sumA_snoc (l : List (Int × Int)) (x : Int × Int) : sumA (l ++ [x]) = ((sumA l).1 + x.1, (sumA l).2 + x.2) := by unfold sumA; rw [List.foldl_append]; rfl
/-- The area of a circle up to a level. -/
def areaOf (c lv : Int) : Int × Int := sumA (strips c (min lv c + c).toNat)

theorem wLo_bd (c y : Int) (hc : 0 ≤ c) (hc2 : c ≤ 1000) (h1 : -c ≤ y) (h2 : y ≤ c) : 0 ≤ wLo c y ∧ wLo c y ≤ 2000 ∧ wLo c y ≤ wHi c y ∧ wHi c y ≤ wLo c y + 1 := by
  obtain ⟨h3, h4⟩ := wq_bd c y hc hc2 h1 h2
  obtain ⟨a, b, _⟩ := rt_is _ h3 (by omega)
  have : rt (wq c y) < 2001 := sq_lt (by omega) (by omega)
  unfold wLo wHi up
  refine ⟨a, by omega, ?_, ?_⟩ <;> split <;> omega
theorem strip_bd (c : Int) (i : Nat) (hc : 0 ≤ c) (hc2 : c ≤ 1000) (h : -c + (i : Int) < c) : 0 ≤ (strip c i).1 ∧ (strip c i).1 ≤ 2001 ∧ 0 ≤ (strip c i).2 ∧ (strip c i).2 ≤ 2001 := by
  have a := wLo_bd c (-c + i) hc hc2 (by omega) (by omega)
  have b := wLo_bd c (-c + i + 1) hc hc2 (by omega) (by omega)
  unfold strip
  refine ⟨?_, ?_, ?_, ?_⟩ <;> dsimp only <;> omega
theorem sumA_bd (c : Int) (hc : 0 ≤ c) (hc2 : c ≤ 1000) : ∀ k : Nat, -c + (k : Int) ≤ c → 0 ≤ (sumA (strips c k)).1 ∧ (sumA (strips c k)).1 ≤ 2001 * k ∧ 0 ≤ (sumA (strips c k)).2 ∧ (sumA (strips c k)).2 ≤ 2001 * k
  | 0, _ => by simp [strips, sumA]
  | k + 1, h => by
    have ih := sumA_bd c hc hc2 k (by omega)
    have b := strip_bd c k hc hc2 (by omega)
    rw [strips_succ, sumA_snoc]
    dsimp only
    omega

end Go.Proofs
