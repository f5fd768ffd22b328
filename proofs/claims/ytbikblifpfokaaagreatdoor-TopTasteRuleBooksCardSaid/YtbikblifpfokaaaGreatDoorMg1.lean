import Derived.StillTail
import Derived.Deep.Quiet
import Derived.BigQuiet
import Derived.Below
import Derived.OneCell
import Derived.Laws.NewBlocks
import Derived.Laws.IdiomRangeMap
set_option linter.unusedSimpArgs false
set_option linter.unusedVariables false
namespace Go.Proofs
open Go.RowKit
section
variable {P : Program} {ops : Array Oper} {md : Region.Mode} {C : World → Prop}
/-- The first 'n' operations, in whatever order, each quiet in the class; behind them 'L'. -/
def headAny (P : Program) (md : Region.Mode) (ops : Array Oper) (C : World → Prop) (n : Nat) (L : Array Bool → Act → Prop) : Nat → Array Bool → Act → Prop
  | 0, listed, a => L listed a
  | f + 1, listed, a =>
    Region.ready md ops listed ≠ [] ∧ ∀ i ∈ Region.ready md ops listed, i < n ∧ qOp P ops C i (headAny P md ops C n L f (listed.setIfInBounds i true)) a

theorem any_of_head {n g : Nat} {L : Array Bool → Act → Prop} {Q' : Exit → Act → World → Prop} (hL : ∀ listed a w, C w → L listed a → wpAny P md ops Q' g listed a w) :
    ∀ (f : Nat) (listed : Array Bool) (a : Act) (w : World), C w → headAny P md ops C n L f listed a → wpAny P md ops Q' (f + g) listed a w
  | 0, listed, a, w, hw, h => by rw [Nat.zero_add]; exact hL _ _ _ hw h
  | f + 1, listed, a, w, hw, h => by
    rw [show f + 1 + g = (f + g) + 1 by omega]
    exact ⟨fun h0 => absurd h0 h.1, fun i hi => wpOp_of_qOp hw (fun a' w' hw' h' => any_of_head hL f _ a' w' hw' h') (h.2 i hi).2⟩

theorem head_first {n i : Nat} {oi : Oper} {v : Value} {L : Array Bool → Act → Prop} (hi : ops[i]? = some oi) (hsel : ∀ (j : Nat) (o : Oper) cs b, ops[j]? = some o → o.op ≠ .select cs b)
    (hs : Region.sinkB md ops n = true) (hc : Region.chainB md ops n = true) (hn : n < ops.size) (hin : i < n)
    (hdone : ∀ listed a, L listed a → ∀ j ∈ Region.ready md ops listed, n ≤ j) :
    ∀ (f : Nat) (listed : Array Bool) (a : Act), HeadInv md ops n listed →
      (∀ j oj, ops[j]? = some oj → j ≠ i → listed.getD j true = false → (∀ e ∈ oj.after, Region.binds md e = true → e.on ≠ i) → oi.apart ops oj = true) →
      i ∈ Region.ready md ops listed → YieldsIn P ops C oi v a →
      headAny P md ops C n L f (listed.setIfInBounds i true) (a.put oi.dst v) → headAny P md ops C n L (f + 1) listed a := by
  intro f
  induction f with
  | zero =>
    intro listed a inv _ hr hy H
    refine ⟨fun h => (by rw [h] at hr; cases hr), fun j hj => ?_⟩
    have hjn : j < n := by
      rcases Nat.lt_or_ge j n with h | h
      · exact h
      · exact absurd hj (tail_waits hs hc hn inv _ i rfl hin (mem_ready.1 hr).1 j h)
    refine ⟨hjn, ?_⟩
    by_cases hji : j = i
    · subst hji; exact hy.qOp hi H
    · have := hdone _ _ H j (ready_mono hj hji)
      omega
  | succ f ih =>
    intro listed a inv hfree hr hy H
    refine ⟨fun h => (by rw [h] at hr; cases hr), fun j hj => ?_⟩
    have hjn : j < n := by
      rcases Nat.lt_or_ge j n with h | h
      · exact h
      · exact absurd hj (tail_waits hs hc hn inv _ i rfl hin (mem_ready.1 hr).1 j h)
    refine ⟨hjn, ?_⟩
    by_cases hji : j = i
    · subst hji; exact hy.qOp hi H
    · have h1 := (H.2 j (ready_mono hj hji)).2
      obtain ⟨hjun, oj, hoj, hall⟩ := mem_ready.1 hj
      have hnot : ∀ e ∈ oj.after, Region.binds md e = true → e.on ≠ i := fun e he hb heq => by
        have h1 := hall e he hb
        have h0 := (mem_ready.1 hr).1
        rw [heq, getD_both h0] at h1
        cases h1
      have h2 := qOp_put hoj (hfree j oj hoj hji hjun hnot) (fun cs b => hsel i oi cs b hi) (fun cs b => hsel j oj cs b hoj) hy h1
      have hfree' : ∀ k ok, ops[k]? = some ok → k ≠ i → (listed.setIfInBounds j true).getD k true = false →
          (∀ e ∈ ok.after, Region.binds md e = true → e.on ≠ i) → oi.apart ops ok = true := fun k ok hk hki hun hno => by
        refine hfree k ok hk hki ?_ hno
        by_cases hjk : j = k
        · subst hjk; exact hjun
        · rw [getD_set_ne true hjk] at hun; exact hun
      refine qOp_mono (fun a' h3 => ih (listed.setIfInBounds j true) a' (inv.set hj hjn) hfree' (ready_mono hr (Ne.symm hji)) h3.1 ?_) h2
      rw [Array.setIfInBounds_comm _ _ hji]
      exact h3.2

theorem head_lex {n g : Nat} {Lq : Act → Prop} (hsel : Region.noSelect ops = true) (hs : Region.sinkB md ops n = true) (hc : Region.chainB md ops n = true) (hn : n < ops.size) :
    ∀ (l : List Oper) (k : Nat) (listed : Array Bool) (a : Act), (∀ j, j < l.length → l[j]? = ops[k + j]?) → k + l.length = n → HeadInv md ops n listed →
      Region.lexHead md ops g l.length k listed = true → wpQuiet P ops C Lq l a →
      headAny P md ops C n (fun listed a => Region.seqB md ops g n listed = true ∧ Lq a) l.length listed a
  | [], k, listed, a, _, hk, _, hB, h => by
    have : k = n := by simpa using hk
    subst this
    exact ⟨by simpa [Region.lexHead] using hB, h⟩
  | o :: l, k, listed, a, hl, hk, inv, hB, h => by
    have h0 : ops[k]? = some o := by simpa using (hl 0 (by simp)).symm
    simp only [List.length_cons, Region.lexHead, Bool.and_eq_true] at hB
    obtain ⟨⟨hr, hf⟩, hB'⟩ := hB
    have hkn : k < n := by simp only [List.length_cons] at hk; omega
    have hr' : k ∈ Region.ready md ops listed := by simpa using hr
    have hst : qOp P ops C k (wpQuiet P ops C Lq l) a := by unfold qOp; simp only [h0]; exact h
    obtain ⟨v, hy, hK⟩ := yieldsIn_of_qOp h0 hst
    exact head_first h0 (Region.noSelect_spec hsel) hs hc hn hkn (fun listed' a' hL => seqB_ready hL.1) l.length listed a inv (Region.free_spec h0 hf) hr' hy
      (head_lex hsel hs hc hn l (k + 1) _ _ (fun j hj => by have := hl (j + 1) (by simp; omega); simpa [Nat.add_assoc, Nat.add_comm 1 j] using this) (by simp only [List.length_cons] at hk; omega) (inv.set hr' hkn) hB' hK)

/-- A drawn region: its first 'n' operations are quiet in the class 'C', in whatever order; the others come behind, each waiting for the one before: ONE walk in the order of the text. -/
theorem wp_region_head {id : Nat} {Q : Exit → Act → World → Prop} {a : Act} {w : World} {l : List Oper} (n : Nat) (hm : P.follows .mixedOrders = true) (hB : Region.lexTailB .any l.toArray n = true)
    (hC : C { w with drawn := w.drawn + 1 })
    (h : wpQuiet P l.toArray C (fun a' => ∀ w', C w' → wpList P l.toArray Q (l.drop n) a' w') (l.take n) a) : (Code.region id l.toArray true).wp P Q a w := by
  simp only [Region.lexTailB, Bool.and_eq_true, decide_eq_true_eq] at hB
  obtain ⟨⟨⟨⟨hsel, hn⟩, hs⟩, hc⟩, hlex⟩ := hB
  have hn' : n < l.length := by simpa using hn
  have htl : (l.take n).length = n := by simp; omega
  have hdl : (l.drop n).length = l.toArray.size - n := by simp
  have inv0 : HeadInv .any l.toArray n (Array.replicate l.toArray.size false) :=
    ⟨by simp, fun j oj _ hl => (by rw [getD_replicate_false] at hl; cases hl), fun t _ ht => getD_in (by simpa using ht) (getD_replicate_false _ _)⟩
  have H := head_lex (C := C) (P := P) (md := .any) (g := l.toArray.size - n) hsel hs hc hn (l.take n) 0 _ a (fun j hj => by
    have hj' : j < n := by rw [htl] at hj; exact hj
    simp [hj']) (by simpa using htl) inv0 (by rw [htl]; exact hlex) h
  refine wp_region_any hm ?_
  have := any_of_head (Q' := Q) (g := l.toArray.size - n) (fun listed a' w' hw' hL => by
    have := wpAny_of_seq (md := .any) (Q' := Q) (l.drop n) n listed a' w' (fun j => by simp [List.getElem?_drop]) (by rw [hdl]; exact hL.1) (hL.2 w' hw')
    rwa [hdl] at this) _ _ _ _ hC H
  rw [htl, show n + (l.toArray.size - n) = l.toArray.size by omega] at this
  exact this
end

/-- The worlds that 'w' has grown into: below block 'w.heap.size' all is as it was. -/
structure Grew (w : World) where
  val : World
  ok : Below w.heap.size w val
instance (w : World) : Nonempty (Grew w) := ⟨⟨w, Below.refl _ w⟩⟩

theorem Grew.cell {w : World} (x : Grew w) (b o : Nat) (h : b < w.heap.size) : x.val.cell? ⟨b, o, none⟩ = w.cell? ⟨b, o, none⟩ := x.ok.cell (p := ⟨b, o, none⟩) h
theorem Grew.frozen {w : World} (x : Grew w) (b o : Nat) (h : b < w.heap.size) : x.val.frozen? ⟨b, o, none⟩ = w.frozen? ⟨b, o, none⟩ := x.ok.frozen (p := ⟨b, o, none⟩) h

/-- A callee's contract in a world that has grown. -/
theorem Grew.call {P : Program} {f : FuncId} {args : Array Value} {w : World} {x : Grew w} {v : Value}
    (h : Calls P f args x.val fun e w' => e = .returned v ∧ Below x.val.heap.size x.val w') : Calls P f args x.val fun e w'' => e = .returned v ∧ ∃ y : Grew w, w'' = y.val :=
  h.mono fun _ w' ⟨he, hb⟩ => ⟨he, ⟨w', x.ok.trans (hb.mono x.ok.size)⟩, rfl⟩
theorem Grew.call_same {P : Program} {f : FuncId} {args : Array Value} {w : World} {x : Grew w} {v : Value}
    (h : Calls P f args x.val fun e w' => e = .returned v ∧ x.val = w') : Calls P f args x.val fun e w'' => e = .returned v ∧ ∃ y : Grew w, w'' = y.val :=
  h.mono fun _ _ ⟨he, hb⟩ => ⟨he, x, hb.symm⟩

theorem via {w a b : World} (h1 : Below w.heap.size w a) (h2 : Below a.heap.size a b) : Below w.heap.size w b := h1.trans (h2.mono h1.size)
theorem via_alloc {w a : World} (h1 : Below w.heap.size w a) (o : Obj) : Below w.heap.size w (a.alloc o) := h1.alloc h1.size o
theorem new_below (w : World) (o : Obj) : Below w.heap.size w (w.alloc o) := (Below.refl _ _).alloc (Nat.le_refl _) o

theorem gcell {W w1 : World} (hb : Below W.heap.size W w1) (b o : Nat) (h : b < W.heap.size) : w1.cell? ⟨b, o, none⟩ = W.cell? ⟨b, o, none⟩ := hb.cell (p := ⟨b, o, none⟩) h
theorem gfrozen {W w1 : World} (hb : Below W.heap.size W w1) (b o : Nat) (h : b < W.heap.size) : w1.frozen? ⟨b, o, none⟩ = W.frozen? ⟨b, o, none⟩ := hb.frozen (p := ⟨b, o, none⟩) h

theorem wp_region_grew {P : Program} {id : Nat} {Q : Exit → Act → World → Prop} {a : Act} {w : World} {l : List Oper} (n : Nat) (hm : P.follows .mixedOrders = true) (hB : Region.lexTailB .any l.toArray n = true)
    (h : wpQuiet P l.toArray (fun w' => ∃ x : Grew w, w' = x.val) (fun a' => ∀ x : Grew w, wpList P l.toArray Q (l.drop n) a' x.val) (l.take n) a) : (Code.region id l.toArray true).wp P Q a w := by
  refine wp_region_head (C := fun w' => ∃ x : Grew w, w' = x.val) n hm hB ⟨⟨_, (Below.refl _ w).drew⟩, rfl⟩ ?_
  have e : (fun a' => ∀ w', (∃ x : Grew w, w' = x.val) → wpList P l.toArray Q (l.drop n) a' w') = (fun a' => ∀ x : Grew w, wpList P l.toArray Q (l.drop n) a' x.val) := by
    funext a'
    exact propext ⟨fun h x => h _ ⟨x, rfl⟩, fun h w' ⟨x, hx⟩ => hx ▸ h x⟩
  rw [e]
  exact h
theorem wp_region_grew_all {P : Program} {id : Nat} {Q : Exit → Act → World → Prop} {a : Act} {w : World} {l : List Oper} (hm : P.follows .mixedOrders = true) (hB : Region.lexB .any l.toArray = true)
    (h : wpQuiet P l.toArray (fun w' => ∃ x : Grew w, w' = x.val) (fun a' => ∀ x : Grew w, Q .normal a' x.val) l a) : (Code.region id l.toArray true).wp P Q a w := by
  refine wp_region_quiet (C := fun w' => ∃ x : Grew w, w' = x.val) hm hB ⟨⟨_, (Below.refl _ w).drew⟩, rfl⟩ ?_
  have e : (fun a' => ∀ w', (∃ x : Grew w, w' = x.val) → Q .normal a' w') = (fun a' => ∀ x : Grew w, Q .normal a' x.val) := by
    funext a'
    exact propext ⟨fun h x => h _ ⟨x, rfl⟩, fun h w' ⟨x, hx⟩ => hx ▸ h x⟩
  simp only [e]
  exact h

/-- A drawn region in a call that began in 'w0': its first 'n' operations in whatever order in worlds that grow, then the forced tail. -/
theorem region_in {P : Program} {id : Nat} {Q : Exit → Act → World → Prop} {a : Act} {w : World} {l : List Oper} (w0 : World) (n : Nat) (hm : P.follows .mixedOrders = true) (hB : Region.lexTailB .any l.toArray n = true)
    (hw : Below w0.heap.size w0 w)
    (h : (∀ (x : Grew w) (b o : Nat), b < w.heap.size → x.val.cell? ⟨b, o, none⟩ = w.cell? ⟨b, o, none⟩) → Hid (∀ x : Grew w, Below w0.heap.size w0 x.val) →
      wpQuiet P l.toArray (fun w' => ∃ x : Grew w, w' = x.val) (fun a' => ∀ W1, Below w.heap.size w W1 → Below w0.heap.size w0 W1 → w.heap.size ≤ W1.heap.size → wpList P l.toArray Q (l.drop n) a' W1) (l.take n) a) : (Code.region id l.toArray true).wp P Q a w := by
  refine wp_region_grew n hm hB ?_
  have e : (fun a' => ∀ W1, Below w.heap.size w W1 → Below w0.heap.size w0 W1 → w.heap.size ≤ W1.heap.size → wpList P l.toArray Q (l.drop n) a' W1) = (fun a' => ∀ x : Grew w, wpList P l.toArray Q (l.drop n) a' x.val) := by
    funext a'
    exact propext ⟨fun h x => h x.val x.ok (via hw x.ok) x.ok.size, fun h W1 hb _ _ => h ⟨W1, hb⟩⟩
  rw [← e]
  exact h (fun x => x.cell) (fun x => via hw x.ok)
theorem region_all {P : Program} {id : Nat} {Q : Exit → Act → World → Prop} {a : Act} {w : World} {l : List Oper} (w0 : World) (hm : P.follows .mixedOrders = true) (hB : Region.lexB .any l.toArray = true)
    (hw : Below w0.heap.size w0 w)
    (h : (∀ (x : Grew w) (b o : Nat), b < w.heap.size → x.val.cell? ⟨b, o, none⟩ = w.cell? ⟨b, o, none⟩) → Hid (∀ x : Grew w, Below w0.heap.size w0 x.val) →
      wpQuiet P l.toArray (fun w' => ∃ x : Grew w, w' = x.val) (fun a' => ∀ W1, Below w.heap.size w W1 → Below w0.heap.size w0 W1 → w.heap.size ≤ W1.heap.size → Q .normal a' W1) l a) : (Code.region id l.toArray true).wp P Q a w := by
  refine wp_region_grew_all hm hB ?_
  have e : (fun a' => ∀ W1, Below w.heap.size w W1 → Below w0.heap.size w0 W1 → w.heap.size ≤ W1.heap.size → Q .normal a' W1) = (fun a' => ∀ x : Grew w, Q .normal a' x.val) := by
    funext a'
    exact propext ⟨fun h x => h x.val x.ok (via hw x.ok) x.ok.size, fun h W1 hb _ _ => h ⟨W1, hb⟩⟩
  rw [← e]
  exact h (fun x => x.cell) (fun x => via hw x.ok)
end Go.Proofs

set_option linter.unusedSimpArgs false
set_option linter.unusedVariables false
namespace Go.Proofs
open Go.RowKit
/-! What a block holds, whole: one fact a block. -/
theorem bk_keep {W w1 : World} {b : Nat} {o : Obj} (hb : Below W.heap.size W w1) (h : W.heap[b]? = some o) : w1.heap[b]? = some o := (hb.block b (lt_of_block h)).trans h
theorem bk_alloc {w : World} {b : Nat} {o : Obj} (h : w.heap[b]? = some o) (o' : Obj) : (w.alloc o').heap[b]? = some o := (Below.heap_alloc w o' b (lt_of_block h)).trans h
theorem bk_drew {w : World} {b : Nat} {o : Obj} (h : w.heap[b]? = some o) : w.drew.heap[b]? = some o := h
theorem bk_new (w : World) (o : Obj) {n : Nat} (hn : n = w.heap.size) : (w.alloc o).heap[n]? = some o := by subst hn; exact heap_alloc_new w o
theorem bk_set {w : World} {b : Nat} {o : Obj} (h : w.heap[b]? = some o) {p : Addr} (hne : b ≠ p.block) (u : Value) : (w.setCell p u).heap[b]? = some o := (Below.heap_setCell w p u b hne).trans h
theorem bk_cell {w : World} {b : Nat} {cs : Array Value} {t : TypeId} {f : Nat × Nat} (h : w.heap[b]? = some (.cells cs t f)) (o : Nat) : w.cell? ⟨b, o, none⟩ = cs[o]? := by simp [World.cell?, h]
theorem bk_free {w : World} {b : Nat} {cs : Array Value} {t : TypeId} (h : w.heap[b]? = some (.cells cs t (0, 0))) (o : Nat) : w.frozen? ⟨b, o, none⟩ = false := by simp [World.frozen?, h]
theorem bk_past {w : World} {b : Nat} {o : Obj} (h : w.heap[b]? = some o) (o' : Obj) (k : Nat) : (w.alloc o').cell? ⟨b, k, none⟩ = w.cell? ⟨b, k, none⟩ := World.cell?_alloc_past _ _ _ (lt_of_block h)
theorem bk_fpast {w : World} {b : Nat} {o : Obj} (h : w.heap[b]? = some o) (o' : Obj) (k : Nat) : (w.alloc o').frozen? ⟨b, k, none⟩ = w.frozen? ⟨b, k, none⟩ := World.frozen?_alloc_past _ _ _ (lt_of_block h)
theorem bk_here {w : World} {b o : Nat} {cs cs' : Array Value} {t : TypeId} {f : Nat × Nat} (h : w.heap[b]? = some (.cells cs t f)) (u : Value) (hc : cs.setIfInBounds o u = cs') : (w.setCell ⟨b, o, none⟩ u).heap[b]? = some (.cells cs' t f) := by
  subst hc
  have hlt := lt_of_block h
  have h' : w.heap[b] = .cells cs t f := by simpa [Array.getElem?_eq_getElem hlt] using h
  show (w.heap.modify b _)[b]? = _
  rw [Array.getElem?_eq_getElem (by simpa using hlt), Array.getElem_modify_self, h']
  rfl
theorem bk_size {w : World} {b : Nat} {o : Obj} (h : w.heap[b]? = some o) : b < w.heap.size := lt_of_block h
theorem bk1 {w : World} {b : Nat} {v0 : Value} {t : TypeId} (h : w.heap[b]? = some (.cells #[v0] t (0, 0))) : w.cell? ⟨b, 0, none⟩ = some v0 ∧ w.frozen? ⟨b, 0, none⟩ = false ∧ b < w.heap.size :=
  ⟨bk_cell h 0, bk_free h 0, bk_size h⟩
theorem bk2 {w : World} {b : Nat} {v0 v1 : Value} {t : TypeId} (h : w.heap[b]? = some (.cells #[v0, v1] t (0, 0))) : w.cell? ⟨b, 0, none⟩ = some v0 ∧ w.cell? ⟨b, 1, none⟩ = some v1 ∧ w.frozen? ⟨b, 0, none⟩ = false ∧ w.frozen? ⟨b, 1, none⟩ = false ∧ b < w.heap.size :=
  ⟨bk_cell h 0, bk_cell h 1, bk_free h 0, bk_free h 1, bk_size h⟩
theorem bk3 {w : World} {b : Nat} {v0 v1 v2 : Value} {t : TypeId} (h : w.heap[b]? = some (.cells #[v0, v1, v2] t (0, 0))) : w.cell? ⟨b, 0, none⟩ = some v0 ∧ w.cell? ⟨b, 1, none⟩ = some v1 ∧ w.cell? ⟨b, 2, none⟩ = some v2 ∧ w.frozen? ⟨b, 0, none⟩ = false ∧ w.frozen? ⟨b, 1, none⟩ = false ∧ w.frozen? ⟨b, 2, none⟩ = false ∧ b < w.heap.size :=
  ⟨bk_cell h 0, bk_cell h 1, bk_cell h 2, bk_free h 0, bk_free h 1, bk_free h 2, bk_size h⟩
theorem bk4 {w : World} {b : Nat} {v0 v1 v2 v3 : Value} {t : TypeId} (h : w.heap[b]? = some (.cells #[v0, v1, v2, v3] t (0, 0))) : w.cell? ⟨b, 0, none⟩ = some v0 ∧ w.cell? ⟨b, 1, none⟩ = some v1 ∧ w.cell? ⟨b, 2, none⟩ = some v2 ∧ w.cell? ⟨b, 3, none⟩ = some v3 ∧ w.frozen? ⟨b, 0, none⟩ = false ∧ w.frozen? ⟨b, 1, none⟩ = false ∧ w.frozen? ⟨b, 2, none⟩ = false ∧ w.frozen? ⟨b, 3, none⟩ = false ∧ b < w.heap.size :=
  ⟨bk_cell h 0, bk_cell h 1, bk_cell h 2, bk_cell h 3, bk_free h 0, bk_free h 1, bk_free h 2, bk_free h 3, bk_size h⟩
theorem bk5 {w : World} {b : Nat} {v0 v1 v2 v3 v4 : Value} {t : TypeId} (h : w.heap[b]? = some (.cells #[v0, v1, v2, v3, v4] t (0, 0))) : w.cell? ⟨b, 0, none⟩ = some v0 ∧ w.cell? ⟨b, 1, none⟩ = some v1 ∧ w.cell? ⟨b, 2, none⟩ = some v2 ∧ w.cell? ⟨b, 3, none⟩ = some v3 ∧ w.cell? ⟨b, 4, none⟩ = some v4 ∧ w.frozen? ⟨b, 0, none⟩ = false ∧ w.frozen? ⟨b, 1, none⟩ = false ∧ w.frozen? ⟨b, 2, none⟩ = false ∧ w.frozen? ⟨b, 3, none⟩ = false ∧ w.frozen? ⟨b, 4, none⟩ = false ∧ b < w.heap.size :=
  ⟨bk_cell h 0, bk_cell h 1, bk_cell h 2, bk_cell h 3, bk_cell h 4, bk_free h 0, bk_free h 1, bk_free h 2, bk_free h 3, bk_free h 4, bk_size h⟩
theorem bk6 {w : World} {b : Nat} {v0 v1 v2 v3 v4 v5 : Value} {t : TypeId} (h : w.heap[b]? = some (.cells #[v0, v1, v2, v3, v4, v5] t (0, 0))) : w.cell? ⟨b, 0, none⟩ = some v0 ∧ w.cell? ⟨b, 1, none⟩ = some v1 ∧ w.cell? ⟨b, 2, none⟩ = some v2 ∧ w.cell? ⟨b, 3, none⟩ = some v3 ∧ w.cell? ⟨b, 4, none⟩ = some v4 ∧ w.cell? ⟨b, 5, none⟩ = some v5 ∧ w.frozen? ⟨b, 0, none⟩ = false ∧ w.frozen? ⟨b, 1, none⟩ = false ∧ w.frozen? ⟨b, 2, none⟩ = false ∧ w.frozen? ⟨b, 3, none⟩ = false ∧ w.frozen? ⟨b, 4, none⟩ = false ∧ w.frozen? ⟨b, 5, none⟩ = false ∧ b < w.heap.size :=
  ⟨bk_cell h 0, bk_cell h 1, bk_cell h 2, bk_cell h 3, bk_cell h 4, bk_cell h 5, bk_free h 0, bk_free h 1, bk_free h 2, bk_free h 3, bk_free h 4, bk_free h 5, bk_size h⟩
theorem bk7 {w : World} {b : Nat} {v0 v1 v2 v3 v4 v5 v6 : Value} {t : TypeId} (h : w.heap[b]? = some (.cells #[v0, v1, v2, v3, v4, v5, v6] t (0, 0))) : w.cell? ⟨b, 0, none⟩ = some v0 ∧ w.cell? ⟨b, 1, none⟩ = some v1 ∧ w.cell? ⟨b, 2, none⟩ = some v2 ∧ w.cell? ⟨b, 3, none⟩ = some v3 ∧ w.cell? ⟨b, 4, none⟩ = some v4 ∧ w.cell? ⟨b, 5, none⟩ = some v5 ∧ w.cell? ⟨b, 6, none⟩ = some v6 ∧ w.frozen? ⟨b, 0, none⟩ = false ∧ w.frozen? ⟨b, 1, none⟩ = false ∧ w.frozen? ⟨b, 2, none⟩ = false ∧ w.frozen? ⟨b, 3, none⟩ = false ∧ w.frozen? ⟨b, 4, none⟩ = false ∧ w.frozen? ⟨b, 5, none⟩ = false ∧ w.frozen? ⟨b, 6, none⟩ = false ∧ b < w.heap.size :=
  ⟨bk_cell h 0, bk_cell h 1, bk_cell h 2, bk_cell h 3, bk_cell h 4, bk_cell h 5, bk_cell h 6, bk_free h 0, bk_free h 1, bk_free h 2, bk_free h 3, bk_free h 4, bk_free h 5, bk_free h 6, bk_size h⟩
theorem bk8 {w : World} {b : Nat} {v0 v1 v2 v3 v4 v5 v6 v7 : Value} {t : TypeId} (h : w.heap[b]? = some (.cells #[v0, v1, v2, v3, v4, v5, v6, v7] t (0, 0))) : w.cell? ⟨b, 0, none⟩ = some v0 ∧ w.cell? ⟨b, 1, none⟩ = some v1 ∧ w.cell? ⟨b, 2, none⟩ = some v2 ∧ w.cell? ⟨b, 3, none⟩ = some v3 ∧ w.cell? ⟨b, 4, none⟩ = some v4 ∧ w.cell? ⟨b, 5, none⟩ = some v5 ∧ w.cell? ⟨b, 6, none⟩ = some v6 ∧ w.cell? ⟨b, 7, none⟩ = some v7 ∧ w.frozen? ⟨b, 0, none⟩ = false ∧ w.frozen? ⟨b, 1, none⟩ = false ∧ w.frozen? ⟨b, 2, none⟩ = false ∧ w.frozen? ⟨b, 3, none⟩ = false ∧ w.frozen? ⟨b, 4, none⟩ = false ∧ w.frozen? ⟨b, 5, none⟩ = false ∧ w.frozen? ⟨b, 6, none⟩ = false ∧ w.frozen? ⟨b, 7, none⟩ = false ∧ b < w.heap.size :=
  ⟨bk_cell h 0, bk_cell h 1, bk_cell h 2, bk_cell h 3, bk_cell h 4, bk_cell h 5, bk_cell h 6, bk_cell h 7, bk_free h 0, bk_free h 1, bk_free h 2, bk_free h 3, bk_free h 4, bk_free h 5, bk_free h 6, bk_free h 7, bk_size h⟩
end Go.Proofs

set_option linter.unusedSimpArgs false
set_option linter.unusedVariables false
namespace Go.Proofs
open Go.RowKit
/-- The world under a name of its own. -/
theorem wp_world {P : Program} {c : Code} {Q : Exit → Act → World → Prop} {a : Act} {w : World} (h : ∀ W, W = w → c.wp P Q a W) : c.wp P Q a w := h w rfl
end Go.Proofs
