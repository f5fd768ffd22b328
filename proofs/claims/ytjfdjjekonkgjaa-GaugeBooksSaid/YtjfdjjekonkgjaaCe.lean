import Derived.Test.YtjfdjjekonkgjaaNy
import Derived.Test.YtjfdjjekonkgjaaR
import Derived.Test.YtjfdjjekonkgjaaOpen
import Derived.Test.YtjfdjjekonkgjaaCd
set_option linter.unusedSimpArgs false
set_option linter.unusedVariables false
namespace Go.Proofs
open Go.RowKit

theorem flatB_inv {α β : Type} (cs : α → List β) (sz : Nat) (hsz : ∀ x, (cs x).length = sz) : ∀ (l : List α) (j : Nat) (v : β), (l.flatMap cs)[j]? = some v → ∃ k r x, l[k]? = some x ∧ (cs x)[r]? = some v ∧ j = k * sz + r
  | [], j, v, h => by simp at h
  | a :: l, j, v, h => by
    rw [List.flatMap_cons] at h
    by_cases hj : j < sz
    · rw [List.getElem?_append_left (by rw [hsz]; exact hj)] at h
      exact ⟨0, j, a, rfl, h, by omega⟩
    · rw [List.getElem?_append_right (by rw [hsz]; omega), hsz] at h
      obtain ⟨k, r, x, h1, h2, h3⟩ := flatB_inv cs sz hsz l _ v h
      exact ⟨k + 1, r, x, h1, h2, by rw [Nat.add_mul]; omega⟩
theorem flatB_len {α β : Type} (cs : α → List β) (sz : Nat) (hsz : ∀ x, (cs x).length = sz) : ∀ (l : List α), (l.flatMap cs).length = l.length * sz
  | [] => by simp
  | a :: l => by rw [List.flatMap_cons, List.length_append, hsz, flatB_len cs sz hsz l, List.length_cons, Nat.add_mul]; omega
/-- What lies at a slice, cell by cell. -/
theorem atB_news {α : Type} {sz : Nat} {cs : α → List Value} {w : World} {a : Addr} {l : List α} (hsz : ∀ x, (cs x).length = sz) (h : At sz cs w (some a) l) :
    ∀ j u, (l.flatMap cs)[j]? = some u → w.cell? (a.add j) = some u := by
  intro j u hu
  obtain ⟨k, r, x, h1, h2, rfl⟩ := flatB_inv cs sz hsz l j u hu
  obtain ⟨b, o, hA, -, hc⟩ := h k x h1
  simp only [Option.some.injEq] at hA
  subst hA
  rw [addr_add rfl]
  have := hc r u h2
  rw [Nat.add_assoc] at this
  exact this
theorem At.setB {α : Type} {sz : Nat} {cs : α → List Value} {w : World} {A : Option Addr} {l : List α} (h : At sz cs w A l) {p : Addr} (u : Value) (hp : ∀ x, A = some x → p.block ≠ x.block) : At sz cs (w.setCell p u) A l := by
  intro k x hx
  obtain ⟨b, o, hA, hb, hc⟩ := h k x hx
  refine ⟨b, o, hA, by simpa using hb, fun j v hv => ?_⟩
  have hne := hp _ hA
  rw [World.cell?_of_block (w := w) (a := ⟨b, o + k * sz + j, none⟩) (Below.heap_setCell w p u b (fun e => hne e.symm))]
  exact hc j v hv
/-- 'append([]T{}, xs...)': the slice that it is appended to has no room: nothing is asked of its block. -/
theorem append_copy {P : Program} {α : Type} {sz : Nat} {cs : α → List Value} (hsz : ∀ y, (cs y).length = sz) (hp : 0 < sz) {x : World} {t ty e : TypeId} {i : TypeInfo} {z : Value} {bytes : Nat}
    (ht : P.underlying t = some (.slice e)) (hi : P.info? e = some i) (hz : i.zero = some z) (hs : i.size = sz) (hzs : z.cells.size = sz) (hby : i.bytes = bytes) (hbb : bytes ≤ 1000)
    (b : Nat) (N : Nat → Prop) (hb : ¬ N b) (hB : ∀ n, N n → n < x.heap.size) {l : List α} {A : Option Addr} (c : Nat) (hat : At sz cs x A l) (hl : l.length ≤ 1000) :
    ∃ v' x', (Builtin.append_ #[t, t] ty #[.slice (some ⟨b, 0, none⟩) 0 0, .slice A l.length c]).run P x = .ok v' x' ∧ Below x.heap.size x x' ∧
      ∃ A' c', v' = .slice A' l.length c' ∧ At sz cs x' A' l ∧ ∀ p, A' = some p → ¬ N p.block := by
  cases l with
  | nil =>
    refine ⟨.slice (some ⟨b, 0, none⟩) 0 0, x, ?_, Below.refl _ _, _, _, rfl, (fun k y hy => by simp at hy), (fun p hp' => by cases hp'; exact hb)⟩
    cases A with
    | none => simp [Builtin.append_, run_underlying ht, sizeOf, typeInfo, hi, Builtin.lenOf, Builtin.firstCells, loadCells, loadCellsFrom, storeCells]
    | some a => simp [Builtin.append_, run_underlying ht, sizeOf, typeInfo, hi, Builtin.lenOf, Builtin.firstCells, loadCells, loadCellsFrom, storeCells]
  | cons y l' =>
    obtain ⟨l, hl'⟩ : ∃ l, y :: l' = l := ⟨_, rfl⟩
    have hne : 0 < l.length := by rw [← hl']; simp
    rw [hl'] at hat hl ⊢
    obtain ⟨a, rfl⟩ : ∃ a, A = some a := by
      obtain ⟨b', o', h, -⟩ := hat 0 y (by rw [← hl']; rfl)
      exact ⟨_, h⟩
    have hfl := flatB_len cs sz hsz l
    have hnews := atB_news hsz hat
    have hbt : l.length * bytes ≤ 1000 * 1000 := Nat.mul_le_mul hl hbb
    subst hs
    subst hby
    have hr := run_append_grow (P := P) (w := x) t ty e i z ht hi hz ⟨b, 0, none⟩ 0 0 [] (by simp) (by simp) a l.length c (l.flatMap cs) hfl hnews (by omega) (by omega) (growslice_fits (by omega) (by rw [Nat.zero_add]; omega))
    simp only [Nat.zero_add] at hr
    have hge := grownCap_ge x l.length 0 e
    have hcm : grownCap x l.length 0 e ≤ maxLen := grownCap_le_maxLen x l.length 0 e (by unfold maxLen; omega)
    have hb' : Below x.heap.size x (x.drew.alloc (.cells (([] : List Value).toArray ++ (l.flatMap cs).toArray ++ Builtin.zeroCells z.cells (grownCap x l.length 0 e - l.length)) e)) := ((Below.refl _ x).drew).alloc (by simp) _
    have hown : (x.drew.alloc (.cells (([] : List Value).toArray ++ (l.flatMap cs).toArray ++ Builtin.zeroCells z.cells (grownCap x l.length 0 e - l.length)) e)).ownsRow x.heap.size e i.size (.slice (some ⟨x.heap.size, 0, none⟩) l.length (grownCap x l.length 0 e)) l.length (l.flatMap cs) := by
      refine ⟨hfl, .inr ⟨x.heap.size, _, _, rfl, Nat.le_refl _, heap_alloc_new x.drew _, hge, hcm, ?_, ?_⟩⟩
      · simp only [Array.size_append, List.size_toArray, size_zeroCells, hzs, hfl, List.length_nil, Nat.zero_add, ← Nat.add_mul]
        congr 1
        omega
      · simp only [Array.toList_append, List.nil_append]
        rw [← hfl]
        exact List.take_left
    obtain ⟨A', c', e', h⟩ := at_of_owns (cs := cs) (sz := i.size) hsz hown
    refine ⟨_, _, hr, hb', A', c', e', h, fun p hp' => ?_⟩
    subst hp'
    simp only [Value.slice.injEq, Option.some.injEq] at e'
    obtain ⟨rfl, -, -⟩ := e'
    intro hN
    have := hB _ hN
    dsimp only at this
    omega
end Go.Proofs
