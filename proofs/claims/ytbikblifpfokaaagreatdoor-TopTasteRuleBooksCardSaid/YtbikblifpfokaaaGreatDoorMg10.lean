import Derived.Test.YtbikblifpfokaaaGreatDoorMg7
import Derived.Test.YtbikblifpfokaaaGreatDoorMg9
import Derived.Carry
import Derived.Lib.SmallJoins
import Derived.Deep.Slices
import Derived.Deep.Fields
import Derived.Test.YtbikblifpfokaaaGreatDoorMg3
import Derived.Test.YtbikblifpfokaaaGreatDoorMg6
import Derived.Test.YtbikblifpfokaaaGreatDoorMg2
import Derived.Test.YtbikblifpfokaaaGreatDoorMg1
import Derived.Deep.AppendLies
import Derived.Maps.AppendAt
import Derived.RowKit
/- Opening the arguments of the rows of chapter 4, and the row's last step for a walk that knows 'Below' alone. -/
namespace Go.Proofs
open Go.RowKit Go.WideShapes Go.ChangeShapes Go.Deep Go.Joins

section
variable {H : Type} {enc : TypeId × Value → H} {P : Program}
theorem trodAll_stays (hl : laidOutB P = true) {W W' : World} (hb : Below W.heap.size W W') : ∀ {ts : List TypeId} {vs : List Value} {ds : List (DataW H)} {ps : List MemPlace}, (∀ t ∈ ts, P.readableRec t = true ∧ t < P.types.size) →
    DataW.TrodAll enc P W 0 (fun _ => true) true ts vs ds ps → (∀ x ∈ ps, x.block < W.heap.size) → ∀ sp : Nat → Bool, (∀ x ∈ ps, sp x.block = true) → DataW.TrodAll enc P W' 0 sp true ts vs ds ps
  | [], vs, ds, ps, _, h, _, sp, _ => by
    obtain ⟨rfl, rfl, rfl⟩ := trodAll_nil h
    exact trodAll_mk0
  | t :: ts, vs, ds, ps, hr, h, hlt, sp, hsp => by
    obtain ⟨v, vs', d, ds', p, q, rfl, rfl, rfl, h0, h1⟩ := trodAll_cons h
    refine trodAll_cons_mk ?_ (trodAll_stays hl hb (fun u hu => hr u (by simp [hu])) h1 (fun x hx => hlt x (by simp [hx])) sp (fun x hx => hsp x (by simp [hx])))
    exact WideElems.Trod_stays hl (hr t (by simp)).1 (hr t (by simp)).2 h0 (fun x hx => hb.same (hlt x (by simp [hx]))) (fun x hx => hsp x (by simp [hx]))
end

/-! The kit's extra-structs.md section 1 offers these lines. -/
section
variable {H : Type} {enc : TypeId × Value → H} {P : Program} {w : World} {base : Nat} {spare : Nat → Bool} {held : Bool}
theorem open_slice_fields {t e : TypeId} {fs : Array Field} {fuel : Nat} {cs : List Value} {x : DataW H × List MemPlace} (ht : P.underlying t = some (.slice e)) (he : P.underlying e = some (.struct fs))
    (hone : oneCellFields P fs = true) (hC : P.cellsOf e = fs.size) (h : DataW.trod enc P w base spare held fuel t cs = some x) :
    (cs = [.slice none 0 0] ∧ x = (.nil, [])) ∨
    ∃ (a : Addr) (len cap m : Nat) (D : Nat → DataW H) (Pl : Nat → List MemPlace), cs = [.slice (some a) len cap] ∧ base ≤ a.block ∧ len ≤ cap ∧ cap ≤ maxLen ∧ m = (if spare a.block then cap else len) ∧
      x = (.slice ((List.range len).map D) ((List.range (m - len)).map fun j => D (len + j)), MemPlace.row a (m * fs.size) ++ (List.range m).flatMap Pl) ∧
      ∀ i, i < m → ∃ (ys : List (DataW H × List MemPlace)) (n : Nat), D i = .agg (ys.map (·.1)) ∧ Pl i = ys.flatMap (·.2) ∧ ys.length = fs.size ∧
        ∀ (j : Nat) (f : Field), fs[j]? = some f → ∃ (v : Value) (y : DataW H × List MemPlace), w.cell? (a.add (i * fs.size + j)) = some v ∧ ys[j]? = some y ∧ DataW.trod enc P w base spare held n f.type [v] = some y := by
  rcases open_slice ht h with h0 | ⟨a, len, cap, m, n, D, Pl, hcs, hb, hl, hm, hmm, hx, hi⟩
  · exact .inl h0
  · refine .inr ⟨a, len, cap, m, D, Pl, hcs, hb, hl, hm, hmm, by rw [hC] at hx; exact hx, fun i him => ?_⟩
    obtain ⟨cs', hc, ht'⟩ := hi i him
    rw [hC] at hc
    obtain ⟨ys, n', hn', hy, hlen, hyl, hf⟩ := DataW.trod_struct he ht'
    obtain ⟨_, hcl, hat⟩ := World.cells?_some hc
    simp only [Prod.mk.injEq] at hy
    refine ⟨ys, n', hy.1, hy.2, hyl, fun j f hj => ?_⟩
    obtain ⟨ho, hk⟩ := hone_of hone j f hj
    have hjl : j < fs.size := (Array.getElem?_eq_some_iff.1 hj).1
    have hcell := hat j hjl
    have hv : cs'[j]? = some (cs'[j]'(by omega)) := List.getElem?_eq_getElem (by omega)
    have h1 := hf j f hj
    rw [ho, hk] at h1
    have hone' : (cs'.drop j).take 1 = [cs'[j]'(by omega)] := by
      rw [List.drop_eq_getElem_cons (by omega)]
      rfl
    rw [hone'] at h1
    have hys : ys[j]? = some (ys[j]'(by omega)) := List.getElem?_eq_getElem (by omega)
    refine ⟨_, _, ?_, hys, h1.trans hys⟩
    rw [← Go.Deep.add_add, hcell, hv]
end

theorem addr_add {a : Addr} (h : a.spot = none) (n : Nat) : a.add n = ⟨a.block, a.off + n, none⟩ := by
  obtain ⟨b, o, s⟩ := a
  dsimp only at h
  subst h
  unfold Addr.add
  split
  · rename_i e; subst e; rfl
  · rfl
theorem spot_of_cell {W : World} {a : Addr} {v : Value} (h : W.cell? a = some v) : a.spot = none ∧ a.block < W.heap.size := by
  unfold World.cell? at h
  split at h
  · rename_i c t f e
    refine ⟨?_, (Array.getElem?_eq_some_iff.1 e).1⟩
    cases hs : a.spot with
    | none => rfl
    | some x => rw [hs] at h; simp at h
  · cases h
theorem at_of_cells {α : Type} {sz : Nat} {cs : α → List Value} {Q : α → Prop} {W : World} {a : Addr} (hsz : ∀ x, (cs x).length = sz) (h0 : 0 < sz) :
    ∀ len, (∀ i, i < len → ∃ x, Q x ∧ ∀ j v, (cs x)[j]? = some v → W.cell? (a.add (i * sz + j)) = some v) → ∃ l : List α, l.length = len ∧ At sz cs W (some a) l ∧ ∀ x ∈ l, Q x
  | 0, _ => ⟨[], rfl, fun k x hx => by simp at hx, fun x hx => by simp at hx⟩
  | n + 1, h => by
    obtain ⟨l, hl, hat, hq⟩ := at_of_cells hsz h0 n (fun i hi => h i (by omega))
    obtain ⟨x, hx, hc⟩ := h n (by omega)
    refine ⟨l ++ [x], by simp [hl], ?_, ?_⟩
    · intro k y hy
      by_cases hk : k < n
      · rw [List.getElem?_append_left (by omega)] at hy
        exact hat k y hy
      · have hk2 : k = n := by
          have := (List.getElem?_eq_some_iff.1 hy).1
          simp [hl] at this
          omega
        subst hk2
        rw [List.getElem?_append_right (by omega), hl, Nat.sub_self] at hy
        simp only [List.getElem?_cons_zero, Option.some.injEq] at hy
        subst hy
        obtain ⟨z, _, hz⟩ := h 0 (by omega)
        obtain ⟨v, hv⟩ : ∃ v, (cs z)[0]? = some v := ⟨(cs z)[0]'(by rw [hsz]; omega), List.getElem?_eq_getElem _⟩
        have hz0 := hz 0 v hv
        rw [Nat.zero_mul, Nat.add_zero] at hz0
        have e : a.add 0 = a := by unfold Addr.add; rw [if_pos rfl]
        rw [e] at hz0
        obtain ⟨hs, hb⟩ := spot_of_cell hz0
        refine ⟨a.block, a.off, ?_, hb, ?_⟩
        · obtain ⟨b, o, s⟩ := a
          dsimp only at hs
          subst hs
          rfl
        · intro j v hv
          have := hc j v hv
          rw [addr_add hs] at this
          rw [Nat.add_assoc]
          exact this
    · intro y hy
      rcases List.mem_append.1 hy with hy | hy
      · exact hq y hy
      · simp at hy; subst hy; exact hx

section
variable {H : Type} {enc : TypeId × Value → H} {w : World} {spare : Nat → Bool} {held : Bool}
end
end Go.Proofs

set_option linter.unusedSimpArgs false
set_option linter.unusedVariables false
namespace Go.Proofs
open Go.RowKit

/-! What is of no program, gathered from the texts of chapter 4. -/
def Ic (d : Int) : List Value := [.int .i64 d]
theorem flatB_inv {α β : Type} (cs : α → List β) (sz : Nat) (hsz : ∀ x, (cs x).length = sz) : ∀ (l : List α) (j : Nat) (v : β), (l.flatMap cs)[j]? = some v → ∃ k r x, l[k]? = some x ∧ (cs x)[r]? = some v ∧ j = k * sz + r
  | [], j, v, h => by simp at h
  | a :: l, j, v, h => by
    rw [List.flatMap_cons] at h
    by_cases hj : j < sz
    · rw [List.getElem?_append_left (by rw [hsz]; exact hj)] at h
      exact ⟨0, j, a, rfl, h, by omega⟩
    · rw [List.getElem?_append_right (by rw [hsz]; omega), hsz] at h
      obtain ⟨k, r, x, h1, h2, h3⟩ := flatB_inv cs sz hsz l _ v h
      exact ⟨k + 1, r, x, h1, h2, by rw [Nat.add_mul]; omega⟩
theorem flatB_len {α β : Type} (cs : α → List β) (sz : Nat) (hsz : ∀ x, (cs x).length = sz) : ∀ (l : List α), (l.flatMap cs).length = l.length * sz
  | [] => by simp
  | a :: l => by rw [List.flatMap_cons, List.length_append, hsz, flatB_len cs sz hsz l, List.length_cons, Nat.add_mul]; omega
/-- What lies at a slice, cell by cell. -/
theorem atB_news {α : Type} {sz : Nat} {cs : α → List Value} {w : World} {a : Addr} {l : List α} (hsz : ∀ x, (cs x).length = sz) (h : At sz cs w (some a) l) :
    ∀ j u, (l.flatMap cs)[j]? = some u → w.cell? (a.add j) = some u := by
  intro j u hu
  obtain ⟨k, r, x, h1, h2, rfl⟩ := flatB_inv cs sz hsz l j u hu
  obtain ⟨b, o, hA, -, hc⟩ := h k x h1
  simp only [Option.some.injEq] at hA
  subst hA
  rw [addr_add rfl]
  have := hc r u h2
  rw [Nat.add_assoc] at this
  exact this
theorem At.setB {α : Type} {sz : Nat} {cs : α → List Value} {w : World} {A : Option Addr} {l : List α} (h : At sz cs w A l) {p : Addr} (u : Value) (hp : ∀ x, A = some x → p.block ≠ x.block) : At sz cs (w.setCell p u) A l := by
  intro k x hx
  obtain ⟨b, o, hA, hb, hc⟩ := h k x hx
  refine ⟨b, o, hA, by simpa using hb, fun j v hv => ?_⟩
  have hne := hp _ hA
  rw [World.cell?_of_block (w := w) (a := ⟨b, o + k * sz + j, none⟩) (Below.heap_setCell w p u b (fun e => hne e.symm))]
  exact hc j v hv
/-- 'append([]T{}, xs...)': the slice that it is appended to has no room: nothing is asked of its block. -/
theorem append_copy {P : Program} {α : Type} {sz : Nat} {cs : α → List Value} (hsz : ∀ y, (cs y).length = sz) (hp : 0 < sz) {x : World} {t ty e : TypeId} {i : TypeInfo} {z : Value} {bytes : Nat}
    (ht : P.underlying t = some (.slice e)) (hi : P.info? e = some i) (hz : i.zero = some z) (hs : i.size = sz) (hzs : z.cells.size = sz) (hby : i.bytes = bytes) (hbb : bytes ≤ 1000)
    (b : Nat) (N : Nat → Prop) (hb : ¬ N b) (hB : ∀ n, N n → n < x.heap.size) {l : List α} {A : Option Addr} (c : Nat) (hat : At sz cs x A l) (hl : l.length ≤ 1000) :
    ∃ v' x', (Builtin.append_ #[t, t] ty #[.slice (some ⟨b, 0, none⟩) 0 0, .slice A l.length c]).run P x = .ok v' x' ∧ Below x.heap.size x x' ∧
      ∃ A' c', v' = .slice A' l.length c' ∧ At sz cs x' A' l ∧ ∀ p, A' = some p → ¬ N p.block := by
  cases l with
  | nil =>
    refine ⟨.slice (some ⟨b, 0, none⟩) 0 0, x, ?_, Below.refl _ _, _, _, rfl, (fun k y hy => by simp at hy), (fun p hp' => by cases hp'; exact hb)⟩
    cases A with
    | none => simp [Builtin.append_, run_underlying ht, sizeOf, typeInfo, hi, Builtin.lenOf, Builtin.firstCells, loadCells, loadCellsFrom, storeCells]
    | some a => simp [Builtin.append_, run_underlying ht, sizeOf, typeInfo, hi, Builtin.lenOf, Builtin.firstCells, loadCells, loadCellsFrom, storeCells]
  | cons y l' =>
    obtain ⟨l, hl'⟩ : ∃ l, y :: l' = l := ⟨_, rfl⟩
    have hne : 0 < l.length := by rw [← hl']; simp
    rw [hl'] at hat hl ⊢
    obtain ⟨a, rfl⟩ : ∃ a, A = some a := by
      obtain ⟨b', o', h, -⟩ := hat 0 y (by rw [← hl']; rfl)
      exact ⟨_, h⟩
    have hfl := flatB_len cs sz hsz l
    have hnews := atB_news hsz hat
    have hbt : l.length * bytes ≤ 1000 * 1000 := Nat.mul_le_mul hl hbb
    subst hs
    subst hby
    have hr := run_append_grow (P := P) (w := x) t ty e i z ht hi hz ⟨b, 0, none⟩ 0 0 [] (by simp) (by simp) a l.length c (l.flatMap cs) hfl hnews (by omega) (by omega) (growslice_fits (by omega) (by rw [Nat.zero_add]; omega))
    simp only [Nat.zero_add] at hr
    have hge := grownCap_ge x l.length 0 e
    have hcm : grownCap x l.length 0 e ≤ maxLen := grownCap_le_maxLen x l.length 0 e (by unfold maxLen; omega)
    have hb' : Below x.heap.size x (x.drew.alloc (.cells (([] : List Value).toArray ++ (l.flatMap cs).toArray ++ Builtin.zeroCells z.cells (grownCap x l.length 0 e - l.length)) e)) := ((Below.refl _ x).drew).alloc (by simp) _
    have hown : (x.drew.alloc (.cells (([] : List Value).toArray ++ (l.flatMap cs).toArray ++ Builtin.zeroCells z.cells (grownCap x l.length 0 e - l.length)) e)).ownsRow x.heap.size e i.size (.slice (some ⟨x.heap.size, 0, none⟩) l.length (grownCap x l.length 0 e)) l.length (l.flatMap cs) := by
      refine ⟨hfl, .inr ⟨x.heap.size, _, _, rfl, Nat.le_refl _, heap_alloc_new x.drew _, hge, hcm, ?_, ?_⟩⟩
      · simp only [Array.size_append, List.size_toArray, size_zeroCells, hzs, hfl, List.length_nil, Nat.zero_add, ← Nat.add_mul]
        congr 1
        omega
      · simp only [Array.toList_append, List.nil_append]
        rw [← hfl]
        exact List.take_left
    obtain ⟨A', c', e', h⟩ := at_of_owns (cs := cs) (sz := i.size) hsz hown
    refine ⟨_, _, hr, hb', A', c', e', h, fun p hp' => ?_⟩
    subst hp'
    simp only [Value.slice.injEq, Option.some.injEq] at e'
    obtain ⟨rfl, -, -⟩ := e'
    intro hN
    have := hB _ hN
    dsimp only at this
    omega
/-- What an operation of the copy does to the world at most: it makes blocks, and writes into block B. -/
def Gr (B : Nat) (x x' : World) : Prop := x.heap.size ≤ x'.heap.size ∧ ∀ k, k < x.heap.size → k ≠ B → x'.heap[k]? = x.heap[k]?
theorem Gr.refl (B : Nat) (x : World) : Gr B x x := ⟨Nat.le_refl _, fun _ _ _ => rfl⟩
theorem Gr.of_below {B : Nat} {x x' : World} (h : Below x.heap.size x x') : Gr B x x' := ⟨h.size, fun k hk _ => h.block k hk⟩
theorem Gr.set (B o : Nat) (x : World) (v : Value) : Gr B x (x.setCell ⟨B, o, none⟩ v) := ⟨by simp, fun k _ hk => Below.heap_setCell x _ v k hk⟩
theorem wp_val {P : Program} {o : Oper} {a : Act} {x x' : World} {v : Value} {K : Act → World → Prop} {Q : Exit → Act → World → Prop} (hr : (execOp a.eval o).run P x = .ok (.value v) x') (h : K (a.put o.dst v) x') : o.wp P a x K Q := by
  unfold Oper.wp
  rw [hr, Oper.upon_value]
  exact h
theorem wp_skp {P : Program} {o : Oper} {a : Act} {x x' : World} {K : Act → World → Prop} {Q : Exit → Act → World → Prop} (hr : (execOp a.eval o).run P x = .ok .skip x') (h : K (a.put o.dst undef) x') : o.wp P a x K Q := by
  unfold Oper.wp
  rw [hr, Oper.upon_skip]
  exact h
theorem wp_app {P : Program} {o : Oper} {a : Act} {x x' : World} {v1 v2 v' : Value} {K : Act → World → Prop} {Q : Exit → Act → World → Prop} (s y : Operand) (t : TypeId)
    (ho : o.op = .call { callee := .builtin .append, args := #[s, y], argTypes := #[t, t] }) (hs : a.eval s = v1) (hy : a.eval y = v2)
    (hr : (Builtin.append_ #[t, t] o.type #[v1, v2]).run P x = .ok v' x') (h : K (a.put o.dst v') x') : o.wp P a x K Q := by
  unfold Oper.wp execOp
  simp only [ho, resolve, invoke, builtin, Sem.run_bind, Sem.run_pure, Result.andThen_ok, List.map_toArray, List.map_cons, List.map_nil, hs, hy, hr]
  exact h
theorem info_of {t n b : Nat} (h : (Tryz.prog.info? t).map (fun i => (i.zero.map (·.cells.size), i.size, i.bytes)) = some (some n, n, b)) : ∃ i z, Tryz.prog.info? t = some i ∧ i.zero = some z ∧ i.size = n ∧ z.cells.size = n ∧ i.bytes = b := by
  cases hh : Tryz.prog.info? t with
  | none => rw [hh] at h; cases h
  | some i =>
    rw [hh] at h
    simp only [Option.map_some, Option.some.injEq, Prod.mk.injEq] at h
    cases hz : i.zero with
    | none => rw [hz] at h; simp at h
    | some z =>
      rw [hz] at h
      simp at h
      exact ⟨i, z, rfl, hz, h.2.1, h.1, h.2.2⟩
/-- 'append([]T{}, xs...)': what comes back is the call's own. -/
theorem append_copy_own {P : Program} {α : Type} {sz : Nat} {cs : α → List Value} (hsz : ∀ y, (cs y).length = sz) (hp : 0 < sz) {x : World} {t ty e : TypeId} {i : TypeInfo} {z : Value} {bytes : Nat}
    (ht : P.underlying t = some (.slice e)) (hi : P.info? e = some i) (hz : i.zero = some z) (hs : i.size = sz) (hzs : z.cells.size = sz) (hby : i.bytes = bytes) (hbb : bytes ≤ 1000)
    (b base : Nat) (hbb2 : base ≤ b) (hblk : x.heap[b]? = some (.cells #[] e (0, 0))) (hbs : base ≤ x.heap.size) {l : List α} {A : Option Addr} (c : Nat) (hat : At sz cs x A l) (hl : l.length ≤ 1000) :
    ∃ v' x', (Builtin.append_ #[t, t] ty #[.slice (some ⟨b, 0, none⟩) 0 0, .slice A l.length c]).run P x = .ok v' x' ∧ Below x.heap.size x x' ∧ x'.ownsRow base e sz v' l.length (l.flatMap cs) := by
  cases l with
  | nil =>
    refine ⟨.slice (some ⟨b, 0, none⟩) 0 0, x, ?_, Below.refl _ _, by simp, .inr ⟨b, 0, #[], rfl, hbb2, hblk, Nat.le_refl _, Nat.zero_le _, by simp, by simp⟩⟩
    cases A with
    | none => simp [Builtin.append_, run_underlying ht, sizeOf, typeInfo, hi, Builtin.lenOf, Builtin.firstCells, loadCells, loadCellsFrom, storeCells]
    | some a => simp [Builtin.append_, run_underlying ht, sizeOf, typeInfo, hi, Builtin.lenOf, Builtin.firstCells, loadCells, loadCellsFrom, storeCells]
  | cons y l' =>
    obtain ⟨l, hl'⟩ : ∃ l, y :: l' = l := ⟨_, rfl⟩
    have hne : 0 < l.length := by rw [← hl']; simp
    rw [hl'] at hat hl ⊢
    obtain ⟨a, rfl⟩ : ∃ a, A = some a := by
      obtain ⟨b', o', h, -⟩ := hat 0 y (by rw [← hl']; rfl)
      exact ⟨_, h⟩
    have hfl := flatB_len cs sz hsz l
    have hnews := atB_news hsz hat
    have hbt : l.length * bytes ≤ 1000 * 1000 := Nat.mul_le_mul hl hbb
    subst hs
    subst hby
    have hr := run_append_grow (P := P) (w := x) t ty e i z ht hi hz ⟨b, 0, none⟩ 0 0 [] (by simp) (by simp) a l.length c (l.flatMap cs) hfl hnews (by omega) (by omega) (growslice_fits (by omega) (by rw [Nat.zero_add]; omega))
    simp only [Nat.zero_add] at hr
    have hge := grownCap_ge x l.length 0 e
    have hcm : grownCap x l.length 0 e ≤ maxLen := grownCap_le_maxLen x l.length 0 e (by unfold maxLen; omega)
    have hb' : Below x.heap.size x (x.drew.alloc (.cells (([] : List Value).toArray ++ (l.flatMap cs).toArray ++ Builtin.zeroCells z.cells (grownCap x l.length 0 e - l.length)) e)) := ((Below.refl _ x).drew).alloc (by simp) _
    refine ⟨_, _, hr, hb', hfl, .inr ⟨x.heap.size, _, _, rfl, hbs, heap_alloc_new x.drew _, hge, hcm, ?_, ?_⟩⟩
    · simp only [Array.size_append, List.size_toArray, size_zeroCells, hzs, hfl, List.length_nil, Nat.zero_add, ← Nat.add_mul]
      congr 1
      omega
    · simp only [Array.toList_append, List.nil_append]
      rw [← hfl]
      exact List.take_left
section
variable {P : Program} {ops : Array Oper}
theorem wpList_app {rest : List Oper} {o : Oper} {a : Act} {x x' : World} {v1 v2 v' : Value} {Q : Exit → Act → World → Prop} (hgd : o.guard = none) (s y : Operand) (t : TypeId)
    (ho : o.op = .call { callee := .builtin .append, args := #[s, y], argTypes := #[t, t] }) (hs : a.eval s = v1) (hy : a.eval y = v2)
    (hr : (Builtin.append_ #[t, t] o.type #[v1, v2]).run P x = .ok v' x') (h : wpList P ops Q rest (a.put o.dst v') x') : wpList P ops Q (o :: rest) a x := by
  refine wpList_plain hgd fun K hK => ?_
  unfold Oper.wp execOp
  simp only [ho, resolve, invoke, builtin, Sem.run_bind, Sem.run_pure, Result.andThen_ok, List.map_toArray, List.map_cons, List.map_nil, hs, hy, hr]
  exact hK _ _ h
end
theorem Gr.trans {B : Nat} {x y z : World} (h1 : Gr B x y) (h2 : Gr B y z) : Gr B x z := ⟨Nat.le_trans h1.1 h2.1, fun k hk hne => (h2.2 k (Nat.lt_of_lt_of_le hk h1.1) hne).trans (h1.2 k hk hne)⟩
theorem Gr.grown {B : Nat} {x y z : World} {row : Option Nat} (h1 : Gr B x y) (hg : y.grownBy z row) (hr : ∀ b, row = some b → x.heap.size ≤ b) : Gr B x z :=
  ⟨Nat.le_trans h1.1 hg.size, fun k hk hne => (hg.block k (Nat.lt_of_lt_of_le hk h1.1) (fun e => by have := hr k e.symm; omega)).trans (h1.2 k hk hne)⟩
theorem Gr.at {α : Type} {sz : Nat} {cs : α → List Value} {B : Nat} {x x' : World} {A : Option Addr} {l : List α} (g : Gr B x x') (h : At sz cs x A l) (hne : 0 < l.length → ∀ p, A = some p → p.block ≠ B) : At sz cs x' A l := by
  intro k y hy
  obtain ⟨b, o, hA, hb, hc⟩ := h k y hy
  refine ⟨b, o, hA, Nat.lt_of_lt_of_le hb g.1, fun j v hv => ?_⟩
  rw [← hc j v hv]
  exact World.cell?_of_block (a := ⟨b, o + k * sz + j, none⟩) (g.2 b hb (fun e => hne (by have := (List.getElem?_eq_some_iff.1 hy).1; omega) _ hA e))
def Apart (n : Nat) (b : Nat) (h : Gh) : Prop := 0 < n → ∀ p, h.a1 = some p → p.block ≠ b
theorem cells_new' (w : World) (vs : List Value) (t : TypeId) {n : Nat} (hn : n = w.heap.size) : ∀ j u, vs[j]? = some u → (w.alloc (.cells vs.toArray t)).cell? (Addr.add ⟨n, 0, none⟩ j) = some u := by
  subst hn
  intro j u h
  rw [addr_add rfl, World.cell?_alloc_at _ _ _ _ rfl]
  simpa using h
theorem not_own {w : World} {base : Nat} {e : TypeId} {size n : Nat} {v : Value} {xs : List Value} (h : w.ownsRow base e size v n xs) {b : Nat} (hb : b < base) : some b ≠ v.ownBlock := by
  intro he
  have := (h.lt b he.symm).1
  omega
theorem bk_grown {x x' : World} {row : Option Nat} {b : Nat} {o : Obj} (hg : x.grownBy x' row) (h : x.heap[b]? = some o) (hne : some b ≠ row) : x'.heap[b]? = some o := (hg.block b (lt_of_block h) hne).trans h
theorem own_slice {w : World} {base : Nat} {e : TypeId} {size n : Nat} {v : Value} {xs : List Value} (h : w.ownsRow base e size v n xs) : ∃ A c, v = .slice A n c := by
  rcases h.2 with ⟨rfl, rfl⟩ | ⟨g, cap, cur, h1, -⟩
  · exact ⟨none, 0, rfl⟩
  · exact ⟨_, _, h1⟩
theorem at_drop {w : World} {b o : Nat} {l : List Int} {cl : Nat} (h : At 1 Ic w (some ⟨b, o, none⟩) l) (d : Nat) (hd : l.length ≤ cl) : At 1 Ic w (if cl = d then some ⟨b, o, none⟩ else some ⟨b, o + d, none⟩) (l.drop d) := by
  intro k x hx
  rw [List.getElem?_drop] at hx
  have hlt : d + k < l.length := (List.getElem?_eq_some_iff.1 hx).1
  rw [if_neg (by omega)]
  obtain ⟨b', o', hA, hb, hc⟩ := h (d + k) x hx
  simp only [Option.some.injEq, Addr.mk.injEq, and_true] at hA
  obtain ⟨rfl, rfl⟩ := hA
  refine ⟨b, o + d, rfl, hb, fun j v hv => ?_⟩
  have := hc j v hv
  rw [show o + d + k * 1 + j = o + (d + k) * 1 + j by omega]
  exact this
theorem grown_below {w x x' : World} {row : Option Nat} (h : Below w.heap.size w x) (hg : x.grownBy x' row) (hr : ∀ b, row = some b → w.heap.size ≤ b) : Below w.heap.size w x' := h.grown hg h.size hr
section
variable {P : Program}
def rowG (n : Nat) (h : Gh) : Value := .slice h.a1 n h.c1
def mkA (v : Value) (r m q n : Nat) : Nat → Gh → Value := fun j h => if j = r then v else if j = m then .slice (some ⟨h.b, 0, none⟩) 1 1 else rowG n h
/-- A drawn region that appends one row to a list that lies in a cell of a block ('bB', 'off'): operation 'r' reads the list, 'm' makes the row ('z'), 'q' appends, 'k' stores. -/
theorem region_app {id : Nat} {Q : Exit → Act → World → Prop} {a0 : Act} {w : World} {l : List Oper} (w0 : World) (C : World → Prop) (r m q k : Nat) (bB off : Nat) (cs : Array Value) (tB : TypeId) (z : Obj)
    (base : Nat) (e : TypeId) (sz : Nat) (v : Value) (n : Nat) (xs ys : List Value) (af : (Nat → Gh) → Act)
    (hm : P.follows .mixedOrders = true) (hB : slotsOk l.toArray = true) (hB' : ∀ g, slotsOk (mixL [r, m, q, k] (mkA v r m q (n + 1)) g 0 l).toArray = true) (hS : Region.noSelect l.toArray = true) (hN : spB l.toArray [r, m, q, k] = true)
    (hne : r ≠ m ∧ r ≠ q ∧ r ≠ k ∧ m ≠ q ∧ m ≠ k ∧ q ≠ k)
    (hd : (match l[k]? with | some o => o.dst.isNone && o.after.any (fun e => Region.binds .any e && e.on == q) | none => false) = true)
    (hd2 : (match l[q]? with | some o => o.dst.isSome && o.after.any (fun e => Region.binds .any e && e.on == r) && o.after.any (fun e => Region.binds .any e && e.on == m) | none => false) = true)
    (hC0 : C w) (hCs : ∀ x x', C x → Below x.heap.size x x' → C x') (hCw : ∀ x, C x → Below w0.heap.size w0 x)
    (hCg : ∀ x x' row, C x → x.grownBy x' row → (∀ b, row = some b → base ≤ b) → C x') (hCt : ∀ x u, C x → C (x.setCell ⟨bB, off, none⟩ u))
    (hbase : bB < base) (hbs : base ≤ w0.heap.size ∨ base ≤ w.heap.size)
    (hblk : w.heap[bB]? = some (.cells cs tB (0, 0))) (hown : w.ownsRow base e sz v n xs) (hCz : ∀ x, C x → base ≤ x.heap.size)
    (hq : ∀ g u, C u → (∀ (x : Grew u) (b o : Nat), b < u.heap.size → x.val.cell? ⟨b, o, none⟩ = u.cell? ⟨b, o, none⟩) → Hid (∀ x : Grew u, Below w0.heap.size w0 x.val) → Hid (∀ x : Grew u, C x.val) →
      wpQuiet P (mixL [r, m, q, k] (mkA v r m q (n + 1)) g 0 l).toArray (fun w' => ∃ x : Grew u, w' = x.val) (fun a' => a' = af g) (mixL [r, m, q, k] (mkA v r m q (n + 1)) g 0 l) a0)
    (hind : ∀ j ∈ [r, m, q, k], ∀ g h, maskL (coneS l.toArray j 0 l []) 0 (af g).tmps.toList = maskL (coneS l.toArray j 0 l []) 0 (af (upd g j h)).tmps.toList)
    (hr : ∀ o, l[r]? = some o → ∀ g x, C x → x.heap[bB]? = some (.cells cs tB (0, 0)) → (execOp (af g).eval o).run P x = .ok (.value v) x)
    (hm1 : ∀ o, l[m]? = some o → ∀ g x, (execOp (af g).eval o).run P x = .ok (.value (.slice (some ⟨x.heap.size, 0, none⟩) 1 1)) (x.alloc z))
    (hq1 : ∀ o, l[q]? = some o → ∀ (g : Nat → Gh) x, C x → x.ownsRow base e sz v n xs → x.heap[(g m).b]? = some z → ∃ v' x', (execOp (af g).eval o).run P x = .ok (.value v') x' ∧ x'.ownsRow base e sz v' (n + 1) (xs ++ ys) ∧ x.grownBy x' v.ownBlock)
    (hk1 : ∀ o, l[k]? = some o → ∀ (g : Nat → Gh) x, x.heap[bB]? = some (.cells cs tB (0, 0)) → (execOp (af g).eval o).run P x = .ok .skip (x.setCell ⟨bB, off, none⟩ (rowG (n + 1) (g q))))
    (hend : ∀ (g : Nat → Gh) x, C x → x.heap[bB]? = some (.cells (cs.setIfInBounds off (rowG (n + 1) (g q))) tB (0, 0)) → x.ownsRow base e sz (rowG (n + 1) (g q)) (n + 1) (xs ++ ys) → Q .normal (af g) x) :
    (Code.region id l.toArray true).wp P Q a0 w := by
  obtain ⟨n1, n2, n3, n4, n5, n6⟩ := hne
  have afterK : ∀ {L : Nat → Bool} {o : Oper}, l[k]? = some o → (∀ e ∈ o.after, Region.binds .any e = true → L e.on = true) → o.dst = none ∧ L q = true := by
    intro L o ho haft
    rw [ho] at hd
    simp only [Bool.and_eq_true, Option.isNone_iff_eq_none] at hd
    obtain ⟨e, he, hb⟩ := Array.any_eq_true'.1 hd.2
    simp only [Bool.and_eq_true, beq_iff_eq] at hb
    have := haft e he hb.1
    rw [hb.2] at this
    exact ⟨hd.1, this⟩
  have afterQ : ∀ {L : Nat → Bool} {o : Oper}, l[q]? = some o → (∀ e ∈ o.after, Region.binds .any e = true → L e.on = true) → L r = true ∧ L m = true := by
    intro L o ho haft
    rw [ho] at hd2
    simp only [Bool.and_eq_true] at hd2
    obtain ⟨e, he, hb⟩ := Array.any_eq_true'.1 hd2.1.2
    obtain ⟨e2, he2, hb2⟩ := Array.any_eq_true'.1 hd2.2
    simp only [Bool.and_eq_true, beq_iff_eq] at hb hb2
    have h1 := haft e he hb.1
    have h2 := haft e2 he2 hb2.1
    rw [hb.2] at h1
    rw [hb2.2] at h2
    exact ⟨h1, h2⟩
  have hlt : ∀ {x : World} {u : Value} {c : Nat} {zs : List Value}, x.ownsRow base e sz u c zs → some bB ≠ u.ownBlock := by
    intro x u c zs h he
    have := (h.lt bB he.symm).1
    omega
  have ownBelow : ∀ {x x' : World} {u : Value} {c : Nat} {zs : List Value}, x.ownsRow base e sz u c zs → Below x.heap.size x x' → x'.ownsRow base e sz u c zs := fun h hb => owns_below h hb
  refine region_mixC w0 C [r, m, q, k] (mkA v r m q (n + 1)) (fun L g x => (L q = true → L r = true ∧ L m = true) ∧ (L k = true → L q = true) ∧ (L k = false → x.heap[bB]? = some (.cells cs tB (0, 0))) ∧
      (L q = false → L m = true → x.heap[(g m).b]? = some z) ∧ (L q = false → x.ownsRow base e sz v n xs) ∧ (L q = true → x.ownsRow base e sz (rowG (n + 1) (g q)) (n + 1) (xs ++ ys)) ∧
      (L k = true → x.heap[bB]? = some (.cells (cs.setIfInBounds off (rowG (n + 1) (g q))) tB (0, 0)))) af hm hB hB' hS hN hC0 hCs hCw ?_ ?_ hq hind ?_ ?_
  · intro L h
    have a1 := h r (by simp)
    have a2 := h m (by simp)
    have a3 := h q (by simp)
    have a4 := h k (by simp)
    exact ⟨fun h => (by rw [a3] at h; cases h), fun h => (by rw [a4] at h; cases h), fun _ => hblk, fun _ h => (by rw [a2] at h; cases h), fun _ => hown, fun h => (by rw [a3] at h; cases h), fun h => (by rw [a4] at h; cases h)⟩
  · rintro L L' g x x' h ⟨j1, j2, j3, j4, j5, j6, j7⟩ hb
    have a1 := h r (by simp)
    have a2 := h m (by simp)
    have a3 := h q (by simp)
    have a4 := h k (by simp)
    rw [a1, a2, a3, a4]
    exact ⟨j1, j2, fun h => bk_keep hb (j3 h), fun h h' => bk_keep hb (j4 h h'), fun h => ownBelow (j5 h) hb, fun h => ownBelow (j6 h) hb, fun h => bk_keep hb (j7 h)⟩
  · intro j hj o ho L g x ⟨j1, j2, j3, j4, j5, j6, j7⟩ hC hb0 hL hafter
    simp only [List.mem_cons, List.not_mem_nil, or_false] at hj
    have notk : L q = false → L k = false := fun h => by
      cases hk : L k with
      | false => rfl
      | true => rw [j2 hk] at h; cases h
    rcases hj with rfl | rfl | rfl | rfl
    · have lq : L q = false := by
        cases hq0 : L q with
        | false => rfl
        | true => rw [(j1 hq0).1] at hL; cases hL
      refine does_value (hr o ho g x hC (j3 (notk lq))) ⟨hC, .inr ⟨Gh.zero, by simp [mkA], ?_⟩⟩
      rw [setL_self, setL_ne (Ne.symm n1), setL_ne (Ne.symm n2), setL_ne (Ne.symm n3), upd_ne (Ne.symm n1), upd_ne (Ne.symm n2)]
      exact ⟨fun h => ⟨rfl, (j1 h).2⟩, j2, j3, j4, j5, j6, j7⟩
    · have lq : L q = false := by
        cases hq0 : L q with
        | false => rfl
        | true => rw [(j1 hq0).2] at hL; cases hL
      refine does_value (hm1 o ho g x) ⟨hCs _ _ hC (new_below _ _), .inr ⟨{ Gh.zero with b := x.heap.size }, by simp [mkA, Ne.symm n1], ?_⟩⟩
      rw [setL_self, setL_ne n1, setL_ne (Ne.symm n4), setL_ne (Ne.symm n5), upd_self, upd_ne (Ne.symm n4)]
      exact ⟨fun h => ⟨(j1 h).1, rfl⟩, j2, fun h => bk_alloc (j3 h) _, fun _ _ => bk_new _ _ rfl, fun h => (j5 h).alloc _, fun h => (j6 h).alloc _, fun h => bk_alloc (j7 h) _⟩
    · obtain ⟨lr, lm⟩ := afterQ ho hafter
      obtain ⟨v', x', r1, r2, r3⟩ := hq1 o ho g x hC (j5 hL) (j4 hL lm)
      obtain ⟨gB, cap, rfl⟩ : ∃ gB cap, v' = .slice (some ⟨gB, 0, none⟩) (n + 1) cap := by
        obtain ⟨gB, cap, h, _⟩ := r2.form (by omega)
        exact ⟨gB, cap, h⟩
      refine does_value r1 ⟨hCg _ _ _ hC r3 (fun b hb => ((j5 hL).lt b hb).1), .inr ⟨{ Gh.zero with a1 := some ⟨gB, 0, none⟩, c1 := cap }, by simp [mkA, Ne.symm n2, Ne.symm n4, rowG], ?_⟩⟩
      rw [setL_self, setL_ne n2, setL_ne n4, setL_ne (Ne.symm n6), upd_self, upd_ne n4]
      have lk := notk hL
      exact ⟨fun _ => ⟨lr, lm⟩, fun _ => rfl, fun h => bk_grown r3 (j3 h) (hlt (j5 hL)), (fun h => by cases h), (fun h => by cases h), fun _ => r2, (fun h => by rw [lk] at h; cases h)⟩
    · obtain ⟨hdn, lq⟩ := afterK ho hafter
      refine does_skip (hk1 o ho g x (j3 hL)) ⟨hCt _ _ hC, .inl ⟨hdn, ?_⟩⟩
      rw [setL_self, setL_ne n3, setL_ne n5, setL_ne n6]
      refine ⟨j1, fun _ => lq, (fun h => by cases h), (fun h => by rw [lq] at h; cases h), (fun h => by rw [lq] at h; cases h), fun h => ?_, fun _ => bk_here (j3 hL) _ rfl⟩
      exact ownsRow_setCell_below (j6 h) (by dsimp only; exact hbase) _
  · intro g x ⟨j1, j2, j3, j4, j5, j6, j7⟩ hC hb0
    exact hend g x hC (j7 rfl) (j6 rfl)
theorem exec_append {o : Oper} {a : Act} {x : World} (s y : Operand) (t e : TypeId) (i : TypeInfo) (z0 v : Value) (size bytes base n b : Nat) (xs ys : List Value) (tb : TypeId)
    (ho : o.op = .call { callee := .builtin .append, args := #[s, y], argTypes := #[t, t] }) (hs : a.eval s = v) (hy : a.eval y = .slice (some ⟨b, 0, none⟩) 1 1)
    (ht : P.underlying t = some (.slice e)) (hi : P.info? e = some i) (hz : i.zero = some z0) (hsize : i.size = size) (hby : i.bytes = bytes) (hzs : z0.cells.size = size) (hsz : 0 < size)
    (hown : x.ownsRow base e size v n xs) (hb : x.heap[b]? = some (.cells ys.toArray tb (0, 0))) (hl : ys.length = size) (h1 : ∀ u ∈ ys, u.oneCell' = true) (h63 : n + 1 ≤ maxLen) (hbytes : (n + 1) * bytes ≤ 140737488355328) (hbase : base ≤ x.heap.size) :
    ∃ v' x', (execOp a.eval o).run P x = .ok (.value v') x' ∧ x'.ownsRow base e size v' (n + 1) (xs ++ ys) ∧ x.grownBy x' v.ownBlock := by
  have hc : ∀ j u, ys[j]? = some u → x.cell? (Addr.add ⟨b, 0, none⟩ j) = some u := by
    intro j u hj
    have e : (Addr.add ⟨b, 0, none⟩ j) = ⟨b, j, none⟩ := by
      unfold Addr.add
      split <;> simp_all
    rw [e, bk_cell hb]
    simpa using hj
  obtain ⟨v', x', r1, r2, r3, -⟩ := run_append_own_at (P := P) x base t o.type e i z0 size bytes ht hi hz hsize hby hzs hsz v n xs hown ⟨b, 0, none⟩ 1 1 ys (by rw [hl, Nat.one_mul]) hc h1 h63 hbytes hbase
  refine ⟨v', x', ?_, r2, r3⟩
  unfold execOp
  simp only [ho, resolve, invoke, builtin, Sem.run_bind, Sem.run_pure, Result.andThen_ok, List.map_toArray, List.map_cons, List.map_nil, hs, hy, r1]
theorem run_load_slice {f : Operand → Value} {o : Oper} {t : TypeId} {p : Operand} {b off : Nat} {A : Option Addr} {n c : Nat} {x : World} (ho : o.op = .load t p) (hag : Sem.run P (isAgg t) x = .ok false x) (hp : f p = .pointer (some ⟨b, off, none⟩)) (hc : x.cell? ⟨b, off, none⟩ = some (.slice A n c)) :
    (execOp f o).run P x = .ok (.value (.slice A n c)) x := by
  unfold execOp
  rw [ho]
  simp [go_sem, hp, hc, hag]
theorem run_store_slice {f : Operand → Value} {o : Oper} {t : TypeId} {p q : Operand} {b off : Nat} {A : Option Addr} {n c : Nat} {u : Value} {x : World} (ho : o.op = .store t p q) (hsz : Sem.run P (sizeOf t) x = .ok 1 x) (hp : f p = .pointer (some ⟨b, off, none⟩)) (hq : f q = .slice A n c) (hc : x.cell? ⟨b, off, none⟩ = some u) (hf : x.frozen? ⟨b, off, none⟩ = false) :
    (execOp f o).run P x = .ok .skip (x.setCell ⟨b, off, none⟩ (.slice A n c)) := by
  unfold execOp
  rw [ho]
  simp [go_sem, hp, hq, hc, hf, hsz]
/-- A drawn region in a call that began in 'w0': quiet operations; a call 'c' that hands back memory ('mkc', of which 'Pr' holds); an alloc 'm'; a store 'k' into it, behind both. -/
def mkCM (c : Nat) (mkc : Gh → Value) : Nat → Gh → Value := fun j g => if j = c then mkc g else .pointer (some ⟨g.b, 0, none⟩)
theorem region_cms {id : Nat} {Q : Exit → Act → World → Prop} {a0 : Act} {w : World} {l : List Oper} (w0 : World) (c m k : Nat) (mkc : Gh → Value) (Pr : Gh → World → Prop) (Ap : Nat → Gh → Prop) (z : Obj) (y : Gh → Obj) (af : (Nat → Gh) → Act) (hm : P.follows .mixedOrders = true)
    (hB : slotsOk l.toArray = true) (hB' : ∀ g, slotsOk (mixL [c, m, k] (mkCM c mkc) g 0 l).toArray = true) (hS : Region.noSelect l.toArray = true) (hN : spB l.toArray [c, m, k] = true)
    (hne : c ≠ m ∧ c ≠ k ∧ m ≠ k)
    (ht : (match l[k]? with | some o => o.dst.isNone && o.after.any (fun e => Region.binds .any e && e.on == m) && o.after.any (fun e => Region.binds .any e && e.on == c) | none => false) = true)
    (hw : Below w0.heap.size w0 w)
    (hPs : ∀ h x x', Pr h x → Below x.heap.size x x' → Pr h x') (hPa : ∀ h x, Pr h x → Ap x.heap.size h) (hPo : ∀ h b x x', Pr h x → Ap b h → OnlyB b x x' → Pr h x')
    (hal : ∀ o, l[m]? = some o → ∀ (a : Act) (x : World), (execOp a.eval o).run P x = .ok (.value (.pointer (some ⟨x.heap.size, 0, none⟩))) (x.alloc z))
    (hcl : ∀ o, l[c]? = some o → ∀ (g : Nat → Gh) (x : World), Below w.heap.size w x → Below w0.heap.size w0 x → ∃ f args, (execOp (af g).eval o).run P x = .ok (.enter f args) x ∧ Calls P f args x fun e x' => ∃ h, e = .returned (mkc h) ∧ Pr h x' ∧ (∀ b, b < x.heap.size → Ap b h) ∧ Below x.heap.size x x')
    (hq : ∀ g u, Below w.heap.size w u → (∀ (x : Grew u) (b o : Nat), b < u.heap.size → x.val.cell? ⟨b, o, none⟩ = u.cell? ⟨b, o, none⟩) → Hid (∀ x : Grew u, Below w0.heap.size w0 x.val) → Hid (∀ x : Grew u, Below w.heap.size w x.val) →
      wpQuiet P (mixL [c, m, k] (mkCM c mkc) g 0 l).toArray (fun w' => ∃ x : Grew u, w' = x.val) (fun a' => a' = af g) (mixL [c, m, k] (mkCM c mkc) g 0 l) a0)
    (hind : ∀ j ∈ [c, m, k], ∀ g h, maskL (coneS l.toArray j 0 l []) 0 (af g).tmps.toList = maskL (coneS l.toArray j 0 l []) 0 (af (upd g j h)).tmps.toList)
    (hs1 : ∀ o, l[k]? = some o → ∀ (g : Nat → Gh) (x : World), Below w.heap.size w x → x.heap[(g m).b]? = some z → Pr (g c) x → ∃ x', (execOp (af g).eval o).run P x = .ok .skip x' ∧ OnlyB (g m).b x x' ∧ x'.heap[(g m).b]? = some (y (g c)))
    (hend : ∀ (g : Nat → Gh) (x : World), w.heap.size ≤ (g m).b → Below w.heap.size w x → Below w0.heap.size w0 x → Pr (g c) x → Ap (g m).b (g c) → x.heap[(g m).b]? = some (y (g c)) → Q .normal (af g) x) :
    (Code.region id l.toArray true).wp P Q a0 w := by
  obtain ⟨n1, n2, n3⟩ := hne
  refine region_mix w0 [c, m, k] (mkCM c mkc) (fun L g x => (L k = true → L m = true ∧ L c = true) ∧ (L c = true → Pr (g c) x) ∧ (L m = true → w.heap.size ≤ (g m).b ∧ x.heap[(g m).b]? = some (if L k then y (g c) else z)) ∧ (L c = true → L m = true → Ap (g m).b (g c))) af hm hB hB' hS hN hw ?_ ?_ hq hind ?_ ?_
  · intro L h
    have a1 := h c (by simp)
    have a2 := h m (by simp)
    have a3 := h k (by simp)
    exact ⟨fun h => (by rw [a3] at h; cases h), fun h => (by rw [a1] at h; cases h), fun h => (by rw [a2] at h; cases h), fun h => (by rw [a1] at h; cases h)⟩
  · rintro L L' g x x' h ⟨h1, h2, h3, h4⟩ hb
    have a1 := h c (by simp)
    have a2 := h m (by simp)
    have a3 := h k (by simp)
    rw [a1, a2, a3]
    exact ⟨h1, fun h => hPs _ _ _ (h2 h) hb, fun h => ⟨(h3 h).1, bk_keep hb (h3 h).2⟩, h4⟩
  · intro j hj o ho L g x ⟨h1, h2, h3, h4⟩ hbx hb0 hL hafter
    simp only [List.mem_cons, List.not_mem_nil, or_false] at hj
    rcases hj with rfl | rfl | rfl
    · have lk : L k = false := by
        cases hk : L k with
        | false => rfl
        | true => rw [(h1 hk).2] at hL; cases hL
      obtain ⟨f, args, r1, r2⟩ := hcl o ho g x hbx hb0
      refine does_enter r1 (r2.mono ?_)
      rintro e x' ⟨h, rfl, p1, p2, p3⟩
      refine ⟨_, rfl, via hbx p3, .inr ⟨h, by simp [mkCM], ?_⟩⟩
      rw [setL_self, setL_ne (Ne.symm n1), setL_ne (Ne.symm n2), upd_self, upd_ne (Ne.symm n1), lk]
      refine ⟨(fun h => by cases h), fun _ => p1, fun hm => ?_, fun _ hm => p2 _ (bk_size (h3 hm).2)⟩
      have := h3 hm
      rw [lk] at this
      exact ⟨this.1, bk_keep p3 this.2⟩
    · have lk : L k = false := by
        cases hk : L k with
        | false => rfl
        | true => rw [(h1 hk).1] at hL; cases hL
      refine does_value (hal o ho _ x) ⟨via_alloc hbx _, .inr ⟨{ Gh.zero with b := x.heap.size }, by simp [mkCM, Ne.symm n1], ?_⟩⟩
      rw [setL_self, setL_ne n1, setL_ne (Ne.symm n3), upd_self, upd_ne n1, lk]
      refine ⟨(fun h => by cases h), fun h => hPs _ _ _ (h2 h) (new_below _ _), fun _ => ⟨hbx.size, bk_new _ _ rfl⟩, fun h _ => hPa _ _ (h2 h)⟩
    · rw [ho] at ht
      simp only [Bool.and_eq_true, Option.isNone_iff_eq_none] at ht
      obtain ⟨⟨hd, t1⟩, t2⟩ := ht
      obtain ⟨e1, he1, hb1⟩ := Array.any_eq_true'.1 t1
      obtain ⟨e2, he2, hb2⟩ := Array.any_eq_true'.1 t2
      simp only [Bool.and_eq_true, beq_iff_eq] at hb1 hb2
      have lm := hafter e1 he1 hb1.1
      have lc := hafter e2 he2 hb2.1
      rw [hb1.2] at lm
      rw [hb2.2] at lc
      obtain ⟨p1, p2⟩ := h3 lm
      rw [hL, if_neg (by decide)] at p2
      obtain ⟨x', r1, r2, r3⟩ := hs1 o ho g x hbx p2 (h2 lc)
      refine does_skip r1 ⟨hbx.trans (r2.below _ p1), .inl ⟨hd, ?_⟩⟩
      rw [setL_self, setL_ne n2, setL_ne n3]
      exact ⟨fun _ => ⟨lm, lc⟩, fun _ => hPo _ _ _ _ (h2 lc) (h4 lc lm) r2, fun _ => ⟨p1, by rw [if_pos rfl]; exact r3⟩, h4⟩
  · intro g x ⟨h1, h2, h3, h4⟩ hbx hb0
    exact hend g x (h3 rfl).1 hbx hb0 (h2 rfl) (h4 rfl rfl) (by have := (h3 rfl).2; rwa [if_pos rfl] at this)
theorem owns_base {w : World} {base base' : Nat} {e : TypeId} {size n : Nat} {v : Value} {xs : List Value} (h : w.ownsRow base' e size v n xs) (hb : base ≤ base') : w.ownsRow base e size v n xs := by
  refine ⟨h.1, ?_⟩
  rcases h.2 with h | ⟨g, cap, cur, h1, h2, h3⟩
  · exact .inl h
  · exact .inr ⟨g, cap, cur, h1, Nat.le_trans hb h2, h3⟩
/-- A drawn region in a call that began in 'w0': a call 'c' hands back a list of its own, 'm' makes a row, 'q' appends it, a call 'k' takes the new list; all else is quiet. -/
def mkCapk (c m q : Nat) (n : Nat) (mkk : Gh → Value) : Nat → Gh → Value := fun j g => if j = c then .slice g.a1 n g.c1 else if j = m then .slice (some ⟨g.b, 0, none⟩) 1 1 else if j = q then .slice g.a1 (n + 1) g.c1 else mkk g
theorem region_capk {id : Nat} {Q : Exit → Act → World → Prop} {a0 : Act} {w : World} {l : List Oper} (w0 : World) (c m q k : Nat) (n : Nat) (e : TypeId) (sz : Nat) (xs ys : List Value) (z : Obj) (mkk : Gh → Value) (Pk : Gh → World → Prop) (af : (Nat → Gh) → Act) (hm : P.follows .mixedOrders = true)
    (hB : slotsOk l.toArray = true) (hB' : ∀ g, slotsOk (mixL [c, m, q, k] (mkCapk c m q n mkk) g 0 l).toArray = true) (hS : Region.noSelect l.toArray = true) (hN : spB l.toArray [c, m, q, k] = true)
    (hne : c ≠ m ∧ c ≠ q ∧ c ≠ k ∧ m ≠ q ∧ m ≠ k ∧ q ≠ k)
    (hd1 : (match l[q]? with | some o => o.after.any (fun e => Region.binds .any e && e.on == c) && o.after.any (fun e => Region.binds .any e && e.on == m) | none => false) = true)
    (hd2 : (match l[k]? with | some o => o.after.any (fun e => Region.binds .any e && e.on == q) | none => false) = true)
    (hw : Below w0.heap.size w0 w)
    (hPs : ∀ h x x', Pk h x → Below x.heap.size x x' → Pk h x')
    (hcl : ∀ o, l[c]? = some o → ∀ (g : Nat → Gh) (x : World), Below w.heap.size w x → Below w0.heap.size w0 x → ∃ f args, (execOp (af g).eval o).run P x = .ok (.enter f args) x ∧ Calls P f args x fun e' x' => ∃ A cp, e' = .returned (.slice A n cp) ∧ x'.ownsRow w.heap.size e sz (.slice A n cp) n xs ∧ Below x.heap.size x x')
    (hal : ∀ o, l[m]? = some o → ∀ (g : Nat → Gh) (x : World), (execOp (af g).eval o).run P x = .ok (.value (.slice (some ⟨x.heap.size, 0, none⟩) 1 1)) (x.alloc z))
    (hap : ∀ o, l[q]? = some o → ∀ (g : Nat → Gh) (x : World), Below w.heap.size w x → x.ownsRow w.heap.size e sz (.slice (g c).a1 n (g c).c1) n xs → x.heap[(g m).b]? = some z → ∃ v' x', (execOp (af g).eval o).run P x = .ok (.value v') x' ∧ x'.ownsRow w.heap.size e sz v' (n + 1) (xs ++ ys) ∧ x.grownBy x' (Value.slice (g c).a1 n (g c).c1).ownBlock)
    (hkk : ∀ o, l[k]? = some o → ∀ (g : Nat → Gh) (x : World), Below w.heap.size w x → Below w0.heap.size w0 x → x.ownsRow w.heap.size e sz (.slice (g q).a1 (n + 1) (g q).c1) (n + 1) (xs ++ ys) → ∃ f args, (execOp (af g).eval o).run P x = .ok (.enter f args) x ∧ Calls P f args x fun e' x' => ∃ h, e' = .returned (mkk h) ∧ Pk h x' ∧ Below x.heap.size x x')
    (hq : ∀ g u, Below w.heap.size w u → (∀ (x : Grew u) (b o : Nat), b < u.heap.size → x.val.cell? ⟨b, o, none⟩ = u.cell? ⟨b, o, none⟩) → Hid (∀ x : Grew u, Below w0.heap.size w0 x.val) → Hid (∀ x : Grew u, Below w.heap.size w x.val) →
      wpQuiet P (mixL [c, m, q, k] (mkCapk c m q n mkk) g 0 l).toArray (fun w' => ∃ x : Grew u, w' = x.val) (fun a' => a' = af g) (mixL [c, m, q, k] (mkCapk c m q n mkk) g 0 l) a0)
    (hind : ∀ j ∈ [c, m, q, k], ∀ g h, maskL (coneS l.toArray j 0 l []) 0 (af g).tmps.toList = maskL (coneS l.toArray j 0 l []) 0 (af (upd g j h)).tmps.toList)
    (hend : ∀ (g : Nat → Gh) (x : World), Below w.heap.size w x → Below w0.heap.size w0 x → Pk (g k) x → Q .normal (af g) x) :
    (Code.region id l.toArray true).wp P Q a0 w := by
  obtain ⟨n1, n2, n3, n4, n5, n6⟩ := hne
  have afterQ : ∀ {L : Nat → Bool} {o : Oper}, l[q]? = some o → (∀ e ∈ o.after, Region.binds .any e = true → L e.on = true) → L c = true ∧ L m = true := by
    intro L o ho haft
    rw [ho] at hd1
    simp only [Bool.and_eq_true] at hd1
    obtain ⟨e, he, hb⟩ := Array.any_eq_true'.1 hd1.1
    obtain ⟨e2, he2, hb2⟩ := Array.any_eq_true'.1 hd1.2
    simp only [Bool.and_eq_true, beq_iff_eq] at hb hb2
    have h1 := haft e he hb.1
    have h2 := haft e2 he2 hb2.1
    rw [hb.2] at h1
    rw [hb2.2] at h2
    exact ⟨h1, h2⟩
  have afterK : ∀ {L : Nat → Bool} {o : Oper}, l[k]? = some o → (∀ e ∈ o.after, Region.binds .any e = true → L e.on = true) → L q = true := by
    intro L o ho haft
    rw [ho] at hd2
    dsimp only at hd2
    obtain ⟨e, he, hb⟩ := Array.any_eq_true'.1 hd2
    simp only [Bool.and_eq_true, beq_iff_eq] at hb
    have h1 := haft e he hb.1
    rw [hb.2] at h1
    exact h1
  refine region_mix w0 [c, m, q, k] (mkCapk c m q n mkk) (fun L g x => (L q = true → L c = true ∧ L m = true) ∧ (L k = true → L q = true) ∧ (L q = false → L c = true → x.ownsRow w.heap.size e sz (.slice (g c).a1 n (g c).c1) n xs) ∧
      (L q = false → L m = true → x.heap[(g m).b]? = some z) ∧ (L k = false → L q = true → x.ownsRow w.heap.size e sz (.slice (g q).a1 (n + 1) (g q).c1) (n + 1) (xs ++ ys)) ∧ (L k = true → Pk (g k) x)) af hm hB hB' hS hN hw ?_ ?_ hq hind ?_ ?_
  · intro L h
    have a1 := h c (by simp)
    have a2 := h m (by simp)
    have a3 := h q (by simp)
    have a4 := h k (by simp)
    exact ⟨fun h => (by rw [a3] at h; cases h), fun h => (by rw [a4] at h; cases h), fun _ h => (by rw [a1] at h; cases h), fun _ h => (by rw [a2] at h; cases h), fun _ h => (by rw [a3] at h; cases h), fun h => (by rw [a4] at h; cases h)⟩
  · rintro L L' g x x' h ⟨j1, j2, j3, j4, j5, j6⟩ hb
    have a1 := h c (by simp)
    have a2 := h m (by simp)
    have a3 := h q (by simp)
    have a4 := h k (by simp)
    rw [a1, a2, a3, a4]
    exact ⟨j1, j2, fun h h' => owns_below (j3 h h') hb, fun h h' => bk_keep hb (j4 h h'), fun h h' => owns_below (j5 h h') hb, fun h => hPs _ _ _ (j6 h) hb⟩
  · intro j hj o ho L g x ⟨j1, j2, j3, j4, j5, j6⟩ hbx hb0 hL hafter
    simp only [List.mem_cons, List.not_mem_nil, or_false] at hj
    have notk : L q = false → L k = false := fun h => by
      cases hk : L k with
      | false => rfl
      | true => rw [j2 hk] at h; cases h
    rcases hj with rfl | rfl | rfl | rfl
    · have lq : L q = false := by
        cases hq0 : L q with
        | false => rfl
        | true => rw [(j1 hq0).1] at hL; cases hL
      have lk := notk lq
      obtain ⟨f, args, r1, r2⟩ := hcl o ho g x hbx hb0
      refine does_enter r1 (r2.mono ?_)
      rintro e' x' ⟨A, cp, rfl, p1, p2⟩
      refine ⟨_, rfl, via hbx p2, .inr ⟨{ Gh.zero with a1 := A, c1 := cp }, by simp [mkCapk], ?_⟩⟩
      rw [setL_self, setL_ne (Ne.symm n1), setL_ne (Ne.symm n2), setL_ne (Ne.symm n3), upd_self, upd_ne (Ne.symm n1), upd_ne (Ne.symm n2), upd_ne (Ne.symm n3), lq, lk]
      rw [lq] at j4
      exact ⟨(fun h => by cases h), (fun h => by cases h), fun _ _ => p1, fun h h' => bk_keep p2 (j4 h h'), (fun _ h => by cases h), (fun h => by cases h)⟩
    · have lq : L q = false := by
        cases hq0 : L q with
        | false => rfl
        | true => rw [(j1 hq0).2] at hL; cases hL
      have lk := notk lq
      refine does_value (hal o ho g x) ⟨via_alloc hbx _, .inr ⟨{ Gh.zero with b := x.heap.size }, by simp [mkCapk, Ne.symm n1], ?_⟩⟩
      rw [setL_self, setL_ne n1, setL_ne (Ne.symm n4), setL_ne (Ne.symm n5), upd_self, upd_ne n1, upd_ne (Ne.symm n4), upd_ne (Ne.symm n5), lq, lk]
      rw [lq] at j3
      exact ⟨(fun h => by cases h), (fun h => by cases h), fun h h' => (j3 h h').alloc _, fun _ _ => bk_new _ _ rfl, (fun _ h => by cases h), (fun h => by cases h)⟩
    · obtain ⟨lc, lm⟩ := afterQ ho hafter
      have lk := notk hL
      obtain ⟨v', x', r1, r2, r3⟩ := hap o ho g x hbx (j3 hL lc) (j4 hL lm)
      obtain ⟨gB, cap, rfl⟩ : ∃ gB cap, v' = .slice (some ⟨gB, 0, none⟩) (n + 1) cap := by
        obtain ⟨gB, cap, h, _⟩ := r2.form (by omega)
        exact ⟨gB, cap, h⟩
      have hbx' : Below w.heap.size w x' := hbx.grown r3 hbx.size (fun r e => ((j3 hL lc).lt r e).1)
      refine does_value r1 ⟨hbx', .inr ⟨{ Gh.zero with a1 := some ⟨gB, 0, none⟩, c1 := cap }, by simp [mkCapk, Ne.symm n2, Ne.symm n4], ?_⟩⟩
      rw [setL_self, setL_ne n2, setL_ne n4, setL_ne (Ne.symm n6), upd_self, lk]
      exact ⟨fun _ => ⟨lc, lm⟩, (fun h => by cases h), (fun h => by cases h), (fun h => by cases h), fun _ _ => r2, (fun h => by cases h)⟩
    · have lq := afterK ho hafter
      obtain ⟨f, args, r1, r2⟩ := hkk o ho g x hbx hb0 (j5 hL lq)
      refine does_enter r1 (r2.mono ?_)
      rintro e' x' ⟨h, rfl, p1, p2⟩
      refine ⟨_, rfl, via hbx p2, .inr ⟨h, by simp [mkCapk, Ne.symm n3, Ne.symm n5, Ne.symm n6], ?_⟩⟩
      rw [setL_self, setL_ne n3, setL_ne n5, setL_ne n6, upd_self, lq]
      obtain ⟨lc, lm⟩ := j1 lq
      exact ⟨fun _ => ⟨lc, lm⟩, fun _ => rfl, (fun h => by cases h), (fun h => by cases h), (fun h => by cases h), fun _ => p1⟩
  · intro g x ⟨j1, j2, j3, j4, j5, j6⟩ hbx hb0
    exact hend g x hbx hb0 (j6 rfl)
end
end Go.Proofs

set_option linter.unusedSimpArgs false
set_option linter.unusedVariables false
namespace Go.Proofs

/-! Search by breadth: the plain theory. Words are lists of marks; a word is ahead of another one if it is shorter, or as long and first in the order of its marks. -/
def lexlt : List Nat → List Nat → Prop
  | a :: u, b :: v => a < b ∨ (a = b ∧ lexlt u v)
  | _, _ => False
def sl (u v : List Nat) : Prop := u.length < v.length ∨ (u.length = v.length ∧ lexlt u v)
theorem lexlt_irrefl : ∀ (u : List Nat), ¬ lexlt u u
  | [], h => h
  | a :: u, h => by
    rcases h with h | ⟨-, h⟩
    · omega
    · exact lexlt_irrefl u h
theorem lexlt_trans : ∀ {u v w : List Nat}, lexlt u v → lexlt v w → lexlt u w
  | [], _, _, h, _ => h.elim
  | _ :: _, [], _, h, _ => h.elim
  | _ :: _, _ :: _, [], _, h => h.elim
  | a :: u, b :: v, c :: w, h1, h2 => by
    rcases h1 with h1 | ⟨rfl, h1⟩
    · rcases h2 with h2 | ⟨rfl, h2⟩
      · exact .inl (by omega)
      · exact .inl h1
    · rcases h2 with h2 | ⟨rfl, h2⟩
      · exact .inl h2
      · exact .inr ⟨rfl, lexlt_trans h1 h2⟩
theorem lexlt_tri : ∀ (u v : List Nat), u.length = v.length → u = v ∨ lexlt u v ∨ lexlt v u
  | [], [], _ => .inl rfl
  | [], b :: v, h => by simp at h
  | a :: u, [], h => by simp at h
  | a :: u, b :: v, h => by
    rcases Nat.lt_trichotomy a b with h1 | rfl | h1
    · exact .inr (.inl (.inl h1))
    · rcases lexlt_tri u v (by simpa using h) with rfl | h2 | h2
      · exact .inl rfl
      · exact .inr (.inl (.inr ⟨rfl, h2⟩))
      · exact .inr (.inr (.inr ⟨rfl, h2⟩))
    · exact .inr (.inr (.inl h1))
theorem lexlt_snoc : ∀ {u v : List Nat} (a b : Nat), lexlt u v → lexlt (u ++ [a]) (v ++ [b])
  | [], _, _, _, h => h.elim
  | _ :: _, [], _, _, h => h.elim
  | x :: u, y :: v, a, b, h => by
    rcases h with h | ⟨rfl, h⟩
    · exact .inl h
    · exact .inr ⟨rfl, lexlt_snoc a b h⟩
theorem lexlt_last : ∀ (u : List Nat) {a b : Nat}, a < b → lexlt (u ++ [a]) (u ++ [b])
  | [], a, b, h => .inl h
  | x :: u, a, b, h => .inr ⟨rfl, lexlt_last u h⟩
theorem sl_irrefl (u : List Nat) : ¬ sl u u := by
  rintro (h | ⟨-, h⟩)
  · omega
  · exact lexlt_irrefl u h
theorem sl_trans {u v w : List Nat} (h1 : sl u v) (h2 : sl v w) : sl u w := by
  rcases h1 with h1 | ⟨e1, h1⟩
  · rcases h2 with h2 | ⟨e2, -⟩
    · exact .inl (by omega)
    · exact .inl (by omega)
  · rcases h2 with h2 | ⟨e2, h2⟩
    · exact .inl (by omega)
    · exact .inr ⟨by omega, lexlt_trans h1 h2⟩
theorem sl_tri (u v : List Nat) : u = v ∨ sl u v ∨ sl v u := by
  rcases Nat.lt_trichotomy u.length v.length with h | h | h
  · exact .inr (.inl (.inl h))
  · rcases lexlt_tri u v h with rfl | h2 | h2
    · exact .inl rfl
    · exact .inr (.inl (.inr ⟨h, h2⟩))
    · exact .inr (.inr (.inr ⟨h.symm, h2⟩))
  · exact .inr (.inr (.inl h))
theorem sl_snoc {u v : List Nat} (a b : Nat) (h : sl u v) : sl (u ++ [a]) (v ++ [b]) := by
  rcases h with h | ⟨e, h⟩
  · exact .inl (by simp; omega)
  · exact .inr ⟨by simp; omega, lexlt_snoc a b h⟩
theorem sl_last (u : List Nat) {a b : Nat} (h : a < b) : sl (u ++ [a]) (u ++ [b]) := .inr ⟨by simp, lexlt_last u h⟩
theorem sl_ext {u v : List Nat} (a : Nat) (h : u = v ∨ sl u v) : sl u (v ++ [a]) := by
  rcases h with rfl | h | ⟨e, -⟩
  · exact .inl (by simp)
  · exact .inl (by simp; omega)
  · exact .inl (by simp; omega)
/-- Ahead of, or the same. -/
def sle (u v : List Nat) : Prop := u = v ∨ sl u v
theorem sle_antisymm {u v : List Nat} (h1 : sle u v) (h2 : sle v u) : u = v := by
  rcases h1 with h1 | h1
  · exact h1
  · rcases h2 with h2 | h2
    · exact h2.symm
    · exact (sl_irrefl u (sl_trans h1 h2)).elim
theorem sle_trans {u v w : List Nat} (h1 : sle u v) (h2 : sle v w) : sle u w := by
  rcases h1 with rfl | h1
  · exact h2
  · rcases h2 with rfl | h2
    · exact .inr h1
    · exact .inr (sl_trans h1 h2)
theorem sle_snoc {u v : List Nat} (a : Nat) (h : sle u v) : sle (u ++ [a]) (v ++ [a]) := by
  rcases h with rfl | h
  · exact .inl rfl
  · exact .inr (sl_snoc a a h)

section
variable {S : Type} (next : S → Nat → S) (m : Nat) (b : S)
/-- Where a word leads. -/
def runW (s : S) (w : List Nat) : S := w.foldl next s
theorem runW_snoc (s : S) (w : List Nat) (a : Nat) : runW next s (w ++ [a]) = next (runW next s w) a := by unfold runW; rw [List.foldl_append]; rfl
def valid (w : List Nat) : Prop := ∀ a ∈ w, a < m
/-- The queue behind the marks below k of the state that was taken. -/
def push [DecidableEq S] (s : S) (w : List Nat) (seen : List S) (q : List (S × List Nat)) : Nat → List S × List (S × List Nat)
  | 0 => (seen, q)
  | k + 1 => let r := push s w seen q k
    if r.1.contains (next s k) then r else (r.1 ++ [next s k], r.2 ++ [(next s k, w ++ [k])])
/-- What is yielded. -/
def bfs [DecidableEq S] : Nat → List S → List (S × List Nat) → List (S × List Nat)
  | 0, _, _ => []
  | _ + 1, _, [] => []
  | f + 1, seen, (s, w) :: q => let r := push next s w seen q m
    (s, w) :: bfs f r.1 r.2
def bfsB [DecidableEq S] (f : Nat) : List (S × List Nat) := bfs next m f [b] [(b, [])]

/-- What holds throughout: D has been yielded, Q is the queue, 'k' marks of the last one of D have been looked at. -/
structure BInv (D Q : List (S × List Nat)) (seen : List S) (k : Nat) : Prop where
  seen : ∀ s, s ∈ seen ↔ ∃ p ∈ D ++ Q, p.1 = s
  run : ∀ p ∈ D ++ Q, runW next b p.2 = p.1 ∧ valid m p.2
  sorted : (D ++ Q).Pairwise fun p q => sl p.2 q.2
  one : (D ++ Q).Pairwise fun p q => p.1 ≠ q.1
  closed : ∀ p ∈ D, ∀ a, a < m → (D.getLast? = some p → a < k) → ∃ q ∈ D ++ Q, q.1 = next p.1 a ∧ sle q.2 (p.2 ++ [a])
  pushed : ∀ q ∈ Q, (D = [] ∧ q.2 = []) ∨ ∃ p ∈ D, ∃ a, q.2 = p.2 ++ [a] ∧ (D.getLast? = some p → a < k)
  start : ∃ q ∈ D ++ Q, q.1 = b ∧ q.2 = []
theorem BInv.begin : BInv next m b [] [(b, [])] [b] 0 where
  seen := fun s => by simp [eq_comm]
  run := fun p hp => by
    simp at hp
    subst hp
    exact ⟨rfl, fun a ha => by cases ha⟩
  sorted := by simp
  one := by simp
  closed := fun p hp => by cases hp
  pushed := fun q hq => by
    simp at hq
    subst hq
    exact .inl ⟨rfl, rfl⟩
  start := ⟨(b, []), by simp, rfl, rfl⟩
variable {next m b}
theorem BInv.take {D Q : List (S × List Nat)} {p : S × List Nat} {seen : List S} (h : BInv next m b D (p :: Q) seen m) : BInv next m b (D ++ [p]) Q seen 0 := by
  have e : D ++ p :: Q = (D ++ [p]) ++ Q := by simp
  refine ⟨?_, ?_, ?_, ?_, ?_, ?_, ?_⟩
  · rw [← e]; exact h.seen
  · rw [← e]; exact h.run
  · rw [← e]; exact h.sorted
  · rw [← e]; exact h.one
  · intro x hx a ha hlast
    rw [← e]
    rcases List.mem_append.1 hx with hx | hx
    · exact h.closed x hx a ha (fun _ => ha)
    · simp at hx
      subst hx
      have := hlast (by simp)
      omega
  · intro q hq
    right
    rcases h.pushed q (List.mem_cons_of_mem _ hq) with ⟨hD, hq2⟩ | ⟨x, hx, a, h1, h2⟩
    · exfalso
      subst hD
      have hs := h.sorted
      rw [List.nil_append, List.pairwise_cons] at hs
      have h3 := hs.1 q hq
      rw [hq2] at h3
      rcases h3 with h3 | ⟨h3, h4⟩
      · simp at h3
      · have : p.2 = [] := List.eq_nil_of_length_eq_zero h3
        rw [this] at h4
        exact h4
    · refine ⟨x, List.mem_append_left _ hx, a, h1, fun hlast => ?_⟩
      exfalso
      have hs := h.sorted
      have hpx : x = p := by
        rw [List.getLast?_append] at hlast
        simpa using hlast.symm
      have := (List.pairwise_append.1 hs).2.2 x hx p (List.mem_cons_self ..)
      rw [hpx] at this
      exact sl_irrefl _ this
  · rw [← e]; exact h.start
theorem BInv.last {D Q : List (S × List Nat)} {p : S × List Nat} {seen : List S} {k : Nat} (h : BInv next m b (D ++ [p]) Q seen k) {x : S × List Nat} (hx : x ∈ D ++ [p]) : sle x.2 p.2 := by
  rcases List.mem_append.1 hx with hx | hx
  · have hs := (List.pairwise_append.1 h.sorted).1
    exact .inr ((List.pairwise_append.1 hs).2.2 x hx p (by simp))
  · simp at hx
    subst hx
    exact .inl rfl
theorem BInv.step [DecidableEq S] {D Q : List (S × List Nat)} {p : S × List Nat} {seen : List S} {k : Nat} (h : BInv next m b (D ++ [p]) Q seen k) (hk : k < m) :
    (seen.contains (next p.1 k) = true → BInv next m b (D ++ [p]) Q seen (k + 1)) ∧
    (seen.contains (next p.1 k) = false → BInv next m b (D ++ [p]) (Q ++ [(next p.1 k, p.2 ++ [k])]) (seen ++ [next p.1 k]) (k + 1)) := by
  have hgreat : ∀ x ∈ (D ++ [p]) ++ Q, sl x.2 (p.2 ++ [k]) := by
    intro x hx
    rcases List.mem_append.1 hx with hx | hx
    · exact sl_ext k (h.last hx)
    · rcases h.pushed x hx with ⟨hD, -⟩ | ⟨y, hy, a, h1, h2⟩
      · simp at hD
      · rw [h1]
        rcases List.mem_append.1 hy with hy' | hy'
        · have hs := (List.pairwise_append.1 h.sorted).1
          exact sl_snoc a k ((List.pairwise_append.1 hs).2.2 y hy' p (by simp))
        · simp at hy'
          subst hy'
          exact sl_last _ (h2 (by simp))
  constructor
  · intro hc
    rw [List.contains_iff_mem, h.seen] at hc
    obtain ⟨q, hq, e⟩ := hc
    refine ⟨h.seen, h.run, h.sorted, h.one, ?_, ?_, h.start⟩
    · intro x hx a ha hlast
      by_cases hak : (D ++ [p]).getLast? = some x → a < k
      · exact h.closed x hx a ha hak
      · rw [Classical.not_imp] at hak
        obtain ⟨h1, h2⟩ := hak
        have hxp : x = p := by simpa using h1.symm
        have := hlast h1
        have hae : a = k := by omega
        subst hae hxp
        exact ⟨q, hq, e, .inr (hgreat q hq)⟩
    · intro q hq
      rcases h.pushed q hq with h1 | ⟨y, hy, a, h1, h2⟩
      · exact .inl h1
      · exact .inr ⟨y, hy, a, h1, fun hl => Nat.lt_succ_of_lt (h2 hl)⟩
  · intro hc
    have hnot : ∀ x ∈ (D ++ [p]) ++ Q, x.1 ≠ next p.1 k := by
      intro x hx e
      have : next p.1 k ∈ seen := (h.seen _).2 ⟨x, hx, e⟩
      rw [← List.contains_iff_mem, hc] at this
      cases this
    have e : (D ++ [p]) ++ (Q ++ [(next p.1 k, p.2 ++ [k])]) = ((D ++ [p]) ++ Q) ++ [(next p.1 k, p.2 ++ [k])] := by simp
    have hp := h.run p (by simp)
    refine ⟨?_, ?_, ?_, ?_, ?_, ?_, ?_⟩
    · intro s
      rw [List.mem_append, h.seen, e]
      constructor
      · rintro (⟨x, hx, hs⟩ | hs)
        · exact ⟨x, List.mem_append_left _ hx, hs⟩
        · simp at hs
          exact ⟨_, List.mem_append_right _ (by simp; rfl), hs.symm⟩
      · rintro ⟨x, hx, hs⟩
        rcases List.mem_append.1 hx with hx | hx
        · exact .inl ⟨x, hx, hs⟩
        · simp at hx
          subst hx
          exact .inr (by simp [hs.symm])
    · rw [e]
      intro x hx
      rcases List.mem_append.1 hx with hx | hx
      · exact h.run x hx
      · simp at hx
        subst hx
        refine ⟨by dsimp only; rw [runW_snoc, hp.1], fun a ha => ?_⟩
        rcases List.mem_append.1 ha with ha | ha
        · exact hp.2 a ha
        · simp at ha; omega
    · rw [e, List.pairwise_append]
      exact ⟨h.sorted, by simp, fun x hx y hy => by simp at hy; subst hy; exact hgreat x hx⟩
    · rw [e, List.pairwise_append]
      exact ⟨h.one, by simp, fun x hx y hy => by simp at hy; subst hy; exact hnot x hx⟩
    · rw [e]
      intro x hx a ha hlast
      by_cases hak : (D ++ [p]).getLast? = some x → a < k
      · obtain ⟨q, hq, h1, h2⟩ := h.closed x hx a ha hak
        exact ⟨q, List.mem_append_left _ hq, h1, h2⟩
      · rw [Classical.not_imp] at hak
        obtain ⟨h1, h2⟩ := hak
        have hxp : x = p := by simpa using h1.symm
        have := hlast h1
        have hae : a = k := by omega
        subst hae hxp
        exact ⟨_, List.mem_append_right _ (List.mem_singleton.2 rfl), rfl, .inl rfl⟩
    · intro q hq
      rcases List.mem_append.1 hq with hq | hq
      · rcases h.pushed q hq with h1 | ⟨y, hy, a, h1, h2⟩
        · exact .inl h1
        · exact .inr ⟨y, hy, a, h1, fun hl => Nat.lt_succ_of_lt (h2 hl)⟩
      · simp at hq
        subst hq
        exact .inr ⟨p, by simp, k, rfl, fun _ => Nat.lt_succ_self _⟩
    · rw [e]
      obtain ⟨q, hq, h1⟩ := h.start
      exact ⟨q, List.mem_append_left _ hq, h1⟩
theorem BInv.push [DecidableEq S] {D Q : List (S × List Nat)} {p : S × List Nat} {seen : List S} (h : BInv next m b (D ++ [p]) Q seen 0) : ∀ k, k ≤ m → BInv next m b (D ++ [p]) (push next p.1 p.2 seen Q k).2 (push next p.1 p.2 seen Q k).1 k
  | 0, _ => h
  | k + 1, hk => by
    have ih := BInv.push h k (by omega)
    unfold Go.Proofs.push
    dsimp only
    split
    · rename_i hc
      exact (ih.step (by omega)).1 hc
    · rename_i hc
      exact (ih.step (by omega)).2 (by simpa using hc)
/-- Behind the last one all words lead to a state that has been yielded, with a word no later. -/
theorem BInv.least {D : List (S × List Nat)} {seen : List S} (h : BInv next m b D [] seen m) : ∀ (n : Nat) (u : List Nat), u.length = n → valid m u → ∃ q ∈ D, q.1 = runW next b u ∧ sle q.2 u := by
  intro n
  induction n with
  | zero =>
    intro u hu _
    have : u = [] := List.eq_nil_of_length_eq_zero hu
    subst this
    obtain ⟨q, hq, h1, h2⟩ := h.start
    rw [List.append_nil] at hq
    exact ⟨q, hq, h1, .inl h2⟩
  | succ n ih =>
    intro u hu hv
    have hne : u ≠ [] := fun e => by rw [e] at hu; simp at hu
    obtain ⟨u', a, rfl⟩ : ∃ u' a, u = u' ++ [a] := ⟨u.dropLast, u.getLast hne, (List.dropLast_concat_getLast hne).symm⟩
    obtain ⟨p, hp, h1, h2⟩ := ih u' (by simp at hu; exact hu) (fun x hx => hv x (List.mem_append_left _ hx))
    have ha : a < m := hv a (by simp)
    obtain ⟨q, hq, h3, h4⟩ := h.closed p hp a ha (fun _ => ha)
    rw [List.append_nil] at hq
    exact ⟨q, hq, by rw [runW_snoc, h3, h1], sle_trans h4 (sle_snoc a h2)⟩
theorem ne_len : ∀ {a l : List S}, a.Pairwise (· ≠ ·) → (∀ x ∈ a, x ∈ l) → a.length ≤ l.length
  | [], l, _, _ => Nat.zero_le _
  | x :: a, l, h, hs => by
    rw [List.pairwise_cons] at h
    obtain ⟨l1, l2, rfl⟩ := List.append_of_mem (hs x (List.mem_cons_self ..))
    have := ne_len (a := a) (l := l1 ++ l2) h.2 (fun y hy => by
      have h1 := hs y (List.mem_cons_of_mem _ hy)
      have hne : y ≠ x := fun e => h.1 y hy e.symm
      rcases List.mem_append.1 h1 with h1 | h1
      · exact List.mem_append_left _ h1
      · rcases List.mem_cons.1 h1 with h1 | h1
        · exact absurd h1 hne
        · exact List.mem_append_right _ h1)
    simp only [List.length_append, List.length_cons] at this ⊢
    omega
theorem BInv.univ {D Q : List (S × List Nat)} {seen : List S} {k : Nat} (h : BInv next m b D Q seen k) (U : List S) (hb : b ∈ U) (hU : ∀ s ∈ U, ∀ a, a < m → next s a ∈ U) : ∀ p ∈ D ++ Q, p.1 ∈ U := by
  have gen : ∀ (n : Nat) (w : List Nat), w.length = n → valid m w → runW next b w ∈ U := by
    intro n
    induction n with
    | zero =>
      intro w hw _
      rw [List.eq_nil_of_length_eq_zero hw]
      exact hb
    | succ n ih =>
      intro w hw hv
      have hne : w ≠ [] := fun e => by rw [e] at hw; simp at hw
      obtain ⟨w', a, rfl⟩ : ∃ w' a, w = w' ++ [a] := ⟨w.dropLast, w.getLast hne, (List.dropLast_concat_getLast hne).symm⟩
      rw [runW_snoc]
      exact hU _ (ih w' (by simp at hw; exact hw) (fun x hx => hv x (List.mem_append_left _ hx))) a (hv a (by simp))
  intro p hp
  obtain ⟨h1, h2⟩ := h.run p hp
  rw [← h1]
  exact gen _ p.2 rfl h2
theorem BInv.len {D Q : List (S × List Nat)} {seen : List S} {k : Nat} (h : BInv next m b D Q seen k) (U : List S) (hb : b ∈ U) (hU : ∀ s ∈ U, ∀ a, a < m → next s a ∈ U) : (D ++ Q).length ≤ U.length := by
  have := ne_len (a := (D ++ Q).map (·.1)) (l := U) (by rw [List.pairwise_map]; exact h.one) (fun x hx => by
    obtain ⟨p, hp, rfl⟩ := List.mem_map.1 hx
    exact h.univ U hb hU p hp)
  rwa [List.length_map] at this
theorem bfs_done [DecidableEq S] (U : List S) (hb : b ∈ U) (hU : ∀ s ∈ U, ∀ a, a < m → next s a ∈ U) : ∀ (f : Nat) (D Q : List (S × List Nat)) (seen : List S), BInv next m b D Q seen m → U.length ≤ D.length + f → ∃ seen', BInv next m b (D ++ bfs next m f seen Q) [] seen' m
  | 0, D, Q, seen, h, hf => by
    have hl := h.len U hb hU
    rw [List.length_append] at hl
    have hQ : Q = [] := List.eq_nil_of_length_eq_zero (by omega)
    subst hQ
    exact ⟨seen, by unfold bfs; rw [List.append_nil]; exact h⟩
  | f + 1, D, [], seen, h, hf => ⟨seen, by unfold bfs; rw [List.append_nil]; exact h⟩
  | f + 1, D, (s, w) :: Q, seen, h, hf => by
    have h2 := (h.take).push m (Nat.le_refl _)
    obtain ⟨seen', h3⟩ := bfs_done U hb hU f (D ++ [(s, w)]) _ _ h2 (by simp; omega)
    refine ⟨seen', ?_⟩
    unfold bfs
    rw [List.append_assoc] at h3
    exact h3
theorem bfsB_done [DecidableEq S] (U : List S) (hb : b ∈ U) (hU : ∀ s ∈ U, ∀ a, a < m → next s a ∈ U) : ∃ seen, BInv next m b (bfsB next m b U.length) [] seen m := by
  have h0 : BInv next m b [] [(b, [])] [b] m := by
    have h := BInv.begin next m b
    exact ⟨h.seen, h.run, h.sorted, h.one, (fun p hp => by cases hp), (fun q hq => by
      simp at hq
      subst hq
      exact .inl ⟨rfl, rfl⟩), h.start⟩
  have := bfs_done U hb hU U.length [] [(b, [])] [b] h0 (by simp)
  rwa [List.nil_append] at this
/-- The first one that is found has the first word that leads to such a state. -/
theorem bfs_find [DecidableEq S] (U : List S) (hb : b ∈ U) (hU : ∀ s ∈ U, ∀ a, a < m → next s a ∈ U) (C : S → Bool) :
    match (bfsB next m b U.length).find? fun p => C p.1 with
    | some p => C (runW next b p.2) = true ∧ p.1 = runW next b p.2 ∧ valid m p.2 ∧ ∀ u, valid m u → C (runW next b u) = true → sle p.2 u
    | none => ∀ u, valid m u → C (runW next b u) = false := by
  obtain ⟨seen, h⟩ := bfsB_done (next := next) (m := m) U hb hU
  generalize bfsB next m b U.length = L at h
  have hl := h.least
  cases hf : L.find? fun p => C p.1 with
  | none =>
    intro u hu
    obtain ⟨q, hq, h1, -⟩ := hl _ u rfl hu
    rw [List.find?_eq_none] at hf
    have := hf q hq
    rw [h1] at this
    simpa using this
  | some p =>
    have hp := List.mem_of_find?_eq_some hf
    obtain ⟨h1, h2⟩ := h.run p (by simpa using hp)
    have hc : C p.1 = true := List.find?_some (p := fun p : S × List Nat => C p.1) hf
    refine ⟨by rw [h1]; exact hc, h1.symm, h2, fun u hu hcu => ?_⟩
    obtain ⟨q, hq, h3, h4⟩ := hl _ u rfl hu
    rw [← h3] at hcu
    refine sle_trans ?_ h4
    obtain ⟨as1, bs, e, hno⟩ := (List.find?_eq_some_iff_append.1 hf).2
    rw [e] at hq
    have hs := h.sorted
    rw [List.append_nil, e] at hs
    rcases List.mem_append.1 hq with hq | hq
    · have := hno q hq
      rw [hcu] at this
      cases this
    · rcases List.mem_cons.1 hq with rfl | hq
      · exact .inl rfl
      · have := (List.pairwise_append.1 hs).2.1
        rw [List.pairwise_cons] at this
        exact .inr (this.1 q hq)
end
end Go.Proofs
