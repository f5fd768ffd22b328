import Derived.Test.YtceiinlmblgdoaaGreatDoorNs
set_option linter.unusedSimpArgs false
set_option linter.unusedVariables false
namespace Go.Proofs
open Go.RowKit
theorem above_grew (u : World) : above u = fun w' => ∃ x : Grew u, w' = x.val := by
  funext w'
  exact propext ⟨fun h => ⟨⟨w', h⟩, rfl⟩, fun ⟨x, hx⟩ => by subst hx; exact x.ok⟩
/-- A drawn region in a call that began in 'w0': quiet operations, one new block, one store into it. -/
theorem region_store {P : Program} {id : Nat} {Q : Exit → Act → World → Prop} {a : Act} {w : World} {l : List Oper} (w0 : World) (m k d : Nat) (z z' : Obj) (af : Act) (hm : P.follows .mixedOrders = true)
    (hB : slotsOk l.toArray = true) (hB' : slotsOk (dummyAt m k 0 l).toArray = true) (hS : Region.noSelect l.toArray = true) (hN : newB l.toArray m k d = true) (hw : Below w0.heap.size w0 w)
    (hq : ∀ u, Below w.heap.size w u → (∀ (x : Grew u) (b o : Nat), b < u.heap.size → x.val.cell? ⟨b, o, none⟩ = u.cell? ⟨b, o, none⟩) → Hid (∀ x : Grew u, Below w0.heap.size w0 x.val) → Hid (∀ x : Grew u, Below w.heap.size w x.val) →
      wpQuiet P (dummyAt m k 0 l).toArray (fun w' => ∃ x : Grew u, w' = x.val) (fun a' => a' = af) (dummyAt m k 0 l) a)
    (hal : ∀ o, l[m]? = some o → ∀ (a : Act) (x : World), (execOp a.eval o).run P x = .ok (.value (.pointer (some ⟨x.heap.size, 0, none⟩))) (x.alloc z))
    (hst : ∀ o, l[k]? = some o → ∀ (B : Nat) (x : World), Below w.heap.size w x → w.heap.size ≤ B → x.heap[B]? = some z →
      ∃ x', (execOp (af.put (some d) (.pointer (some ⟨B, 0, none⟩))).eval o).run P x = .ok .skip x' ∧ Below w.heap.size w x' ∧ x'.heap[B]? = some z')
    (h : ∀ (B : Nat) (x : World), w.heap.size ≤ B → Below w.heap.size w x → Below w0.heap.size w0 x → x.heap[B]? = some z' → Q .normal (af.put (some d) (.pointer (some ⟨B, 0, none⟩))) x) :
    (Code.region id l.toArray true).wp P Q a w :=
  region_new m k d z z' af hm hB hB' hS hN hal (fun u hu => by
    rw [above_grew]
    exact hq u hu (fun x => x.cell) (fun x => via hw (via hu x.ok)) (fun x => via hu x.ok)) hst (fun B x h1 h2 h3 => h B x h1 h2 (via hw h2) h3)
theorem below_in {w x : World} {a : Addr} (h : Below w.heap.size w x) (hB : w.heap.size ≤ a.block) (u : Value) : Below w.heap.size w (x.setCell a u) := h.setCell hB u
end Go.Proofs
