import Derived.Test.YtceiinlmblgdoaaMx
import Derived.Test.YtceiinlmblgdoaaR
import Derived.Deep.AppendLies
import Derived.Maps.AppendAt
set_option linter.unusedSimpArgs false
set_option linter.unusedVariables false
namespace Go.Proofs
open Go.RowKit

section
variable {P : Program}
theorem bk_grown {x x' : World} {row : Option Nat} {b : Nat} {o : Obj} (hg : x.grownBy x' row) (h : x.heap[b]? = some o) (hne : some b ≠ row) : x'.heap[b]? = some o := (hg.block b (lt_of_block h) hne).trans h
def rowG (n : Nat) (h : Gh) : Value := .slice h.a1 n h.c1
def mkA (v : Value) (r m q n : Nat) : Nat → Gh → Value := fun j h => if j = r then v else if j = m then .slice (some ⟨h.b, 0, none⟩) 1 1 else rowG n h
/-- A drawn region that appends one row to a list that lies in a cell of a block ('bB', 'off'): operation 'r' reads the list, 'm' makes the row ('z'), 'q' appends, 'k' stores. -/
theorem region_app {id : Nat} {Q : Exit → Act → World → Prop} {a0 : Act} {w : World} {l : List Oper} (w0 : World) (C : World → Prop) (r m q k : Nat) (bB off : Nat) (cs : Array Value) (tB : TypeId) (z : Obj)
    (base : Nat) (e : TypeId) (sz : Nat) (v : Value) (n : Nat) (xs ys : List Value) (af : (Nat → Gh) → Act)
    (hm : P.follows .mixedOrders = true) (hB : slotsOk l.toArray = true) (hB' : ∀ g, slotsOk (mixL [r, m, q, k] (mkA v r m q (n + 1)) g 0 l).toArray = true) (hS : Region.noSelect l.toArray = true) (hN : spB l.toArray [r, m, q, k] = true)
    (hne : r ≠ m ∧ r ≠ q ∧ r ≠ k ∧ m ≠ q ∧ m ≠ k ∧ q ≠ k)
    (hd : (match l[k]? with | some o => o.dst.isNone && o.after.any (fun e => Region.binds .any e && e.on == q) | none => false) = true)
    (hd2 : (match l[q]? with | some o => o.dst.isSome && o.after.any (fun e => Region.binds .any e && e.on == r) && o.after.any (fun e => Region.binds .any e && e.on == m) | none => false) = true)
    (hC0 : C w) (hCs : ∀ x x', C x → Below x.heap.size x x' → C x') (hCw : ∀ x, C x → Below w0.heap.size w0 x)
    (hCg : ∀ x x' row, C x → x.grownBy x' row → (∀ b, row = some b → base ≤ b) → C x') (hCt : ∀ x u, C x → C (x.setCell ⟨bB, off, none⟩ u))
    (hbase : bB < base) (hbs : base ≤ w0.heap.size ∨ base ≤ w.heap.size)
    (hblk : w.heap[bB]? = some (.cells cs tB (0, 0))) (hown : w.ownsRow base e sz v n xs) (hCz : ∀ x, C x → base ≤ x.heap.size)
    (hq : ∀ g u, C u → (∀ (x : Grew u) (b o : Nat), b < u.heap.size → x.val.cell? ⟨b, o, none⟩ = u.cell? ⟨b, o, none⟩) → Hid (∀ x : Grew u, Below w0.heap.size w0 x.val) → Hid (∀ x : Grew u, C x.val) →
      wpQuiet P (mixL [r, m, q, k] (mkA v r m q (n + 1)) g 0 l).toArray (fun w' => ∃ x : Grew u, w' = x.val) (fun a' => a' = af g) (mixL [r, m, q, k] (mkA v r m q (n + 1)) g 0 l) a0)
    (hind : ∀ j ∈ [r, m, q, k], ∀ g h, maskL (coneS l.toArray j 0 l []) 0 (af g).tmps.toList = maskL (coneS l.toArray j 0 l []) 0 (af (upd g j h)).tmps.toList)
    (hr : ∀ o, l[r]? = some o → ∀ g x, C x → x.heap[bB]? = some (.cells cs tB (0, 0)) → (execOp (af g).eval o).run P x = .ok (.value v) x)
    (hm1 : ∀ o, l[m]? = some o → ∀ g x, (execOp (af g).eval o).run P x = .ok (.value (.slice (some ⟨x.heap.size, 0, none⟩) 1 1)) (x.alloc z))
    (hq1 : ∀ o, l[q]? = some o → ∀ (g : Nat → Gh) x, C x → x.ownsRow base e sz v n xs → x.heap[(g m).b]? = some z → ∃ v' x', (execOp (af g).eval o).run P x = .ok (.value v') x' ∧ x'.ownsRow base e sz v' (n + 1) (xs ++ ys) ∧ x.grownBy x' v.ownBlock)
    (hk1 : ∀ o, l[k]? = some o → ∀ (g : Nat → Gh) x, x.heap[bB]? = some (.cells cs tB (0, 0)) → (execOp (af g).eval o).run P x = .ok .skip (x.setCell ⟨bB, off, none⟩ (rowG (n + 1) (g q))))
    (hend : ∀ (g : Nat → Gh) x, C x → x.heap[bB]? = some (.cells (cs.setIfInBounds off (rowG (n + 1) (g q))) tB (0, 0)) → x.ownsRow base e sz (rowG (n + 1) (g q)) (n + 1) (xs ++ ys) → Q .normal (af g) x) :
    (Code.region id l.toArray true).wp P Q a0 w := by
  obtain ⟨n1, n2, n3, n4, n5, n6⟩ := hne
  have afterK : ∀ {L : Nat → Bool} {o : Oper}, l[k]? = some o → (∀ e ∈ o.after, Region.binds .any e = true → L e.on = true) → o.dst = none ∧ L q = true := by
    intro L o ho haft
    rw [ho] at hd
    simp only [Bool.and_eq_true, Option.isNone_iff_eq_none] at hd
    obtain ⟨e, he, hb⟩ := Array.any_eq_true'.1 hd.2
    simp only [Bool.and_eq_true, beq_iff_eq] at hb
    have := haft e he hb.1
    rw [hb.2] at this
    exact ⟨hd.1, this⟩
  have afterQ : ∀ {L : Nat → Bool} {o : Oper}, l[q]? = some o → (∀ e ∈ o.after, Region.binds .any e = true → L e.on = true) → L r = true ∧ L m = true := by
    intro L o ho haft
    rw [ho] at hd2
    simp only [Bool.and_eq_true] at hd2
    obtain ⟨e, he, hb⟩ := Array.any_eq_true'.1 hd2.1.2
    obtain ⟨e2, he2, hb2⟩ := Array.any_eq_true'.1 hd2.2
    simp only [Bool.and_eq_true, beq_iff_eq] at hb hb2
    have h1 := haft e he hb.1
    have h2 := haft e2 he2 hb2.1
    rw [hb.2] at h1
    rw [hb2.2] at h2
    exact ⟨h1, h2⟩
  have hlt : ∀ {x : World} {u : Value} {c : Nat} {zs : List Value}, x.ownsRow base e sz u c zs → some bB ≠ u.ownBlock := by
    intro x u c zs h he
    have := (h.lt bB he.symm).1
    omega
  have ownBelow : ∀ {x x' : World} {u : Value} {c : Nat} {zs : List Value}, x.ownsRow base e sz u c zs → Below x.heap.size x x' → x'.ownsRow base e sz u c zs := fun h hb => owns_below h hb
  refine region_mixC w0 C [r, m, q, k] (mkA v r m q (n + 1)) (fun L g x => (L q = true → L r = true ∧ L m = true) ∧ (L k = true → L q = true) ∧ (L k = false → x.heap[bB]? = some (.cells cs tB (0, 0))) ∧
      (L q = false → L m = true → x.heap[(g m).b]? = some z) ∧ (L q = false → x.ownsRow base e sz v n xs) ∧ (L q = true → x.ownsRow base e sz (rowG (n + 1) (g q)) (n + 1) (xs ++ ys)) ∧
      (L k = true → x.heap[bB]? = some (.cells (cs.setIfInBounds off (rowG (n + 1) (g q))) tB (0, 0)))) af hm hB hB' hS hN hC0 hCs hCw ?_ ?_ hq hind ?_ ?_
  · intro L h
    have a1 := h r (by simp)
    have a2 := h m (by simp)
    have a3 := h q (by simp)
    have a4 := h k (by simp)
    exact ⟨fun h => (by rw [a3] at h; cases h), fun h => (by rw [a4] at h; cases h), fun _ => hblk, fun _ h => (by rw [a2] at h; cases h), fun _ => hown, fun h => (by rw [a3] at h; cases h), fun h => (by rw [a4] at h; cases h)⟩
  · rintro L L' g x x' h ⟨j1, j2, j3, j4, j5, j6, j7⟩ hb
    have a1 := h r (by simp)
    have a2 := h m (by simp)
    have a3 := h q (by simp)
    have a4 := h k (by simp)
    rw [a1, a2, a3, a4]
    exact ⟨j1, j2, fun h => bk_keep hb (j3 h), fun h h' => bk_keep hb (j4 h h'), fun h => ownBelow (j5 h) hb, fun h => ownBelow (j6 h) hb, fun h => bk_keep hb (j7 h)⟩
  · intro j hj o ho L g x ⟨j1, j2, j3, j4, j5, j6, j7⟩ hC hb0 hL hafter
    simp only [List.mem_cons, List.not_mem_nil, or_false] at hj
    have notk : L q = false → L k = false := fun h => by
      cases hk : L k with
      | false => rfl
      | true => rw [j2 hk] at h; cases h
    rcases hj with rfl | rfl | rfl | rfl
    · have lq : L q = false := by
        cases hq0 : L q with
        | false => rfl
        | true => rw [(j1 hq0).1] at hL; cases hL
      refine does_value (hr o ho g x hC (j3 (notk lq))) ⟨hC, .inr ⟨Gh.zero, by simp [mkA], ?_⟩⟩
      rw [setL_self, setL_ne (Ne.symm n1), setL_ne (Ne.symm n2), setL_ne (Ne.symm n3), upd_ne (Ne.symm n1), upd_ne (Ne.symm n2)]
      exact ⟨fun h => ⟨rfl, (j1 h).2⟩, j2, j3, j4, j5, j6, j7⟩
    · have lq : L q = false := by
        cases hq0 : L q with
        | false => rfl
        | true => rw [(j1 hq0).2] at hL; cases hL
      refine does_value (hm1 o ho g x) ⟨hCs _ _ hC (new_below _ _), .inr ⟨{ Gh.zero with b := x.heap.size }, by simp [mkA, Ne.symm n1], ?_⟩⟩
      rw [setL_self, setL_ne n1, setL_ne (Ne.symm n4), setL_ne (Ne.symm n5), upd_self, upd_ne (Ne.symm n4)]
      exact ⟨fun h => ⟨(j1 h).1, rfl⟩, j2, fun h => bk_alloc (j3 h) _, fun _ _ => bk_new _ _ rfl, fun h => (j5 h).alloc _, fun h => (j6 h).alloc _, fun h => bk_alloc (j7 h) _⟩
    · obtain ⟨lr, lm⟩ := afterQ ho hafter
      obtain ⟨v', x', r1, r2, r3⟩ := hq1 o ho g x hC (j5 hL) (j4 hL lm)
      obtain ⟨gB, cap, rfl⟩ : ∃ gB cap, v' = .slice (some ⟨gB, 0, none⟩) (n + 1) cap := by
        obtain ⟨gB, cap, h, _⟩ := r2.form (by omega)
        exact ⟨gB, cap, h⟩
      refine does_value r1 ⟨hCg _ _ _ hC r3 (fun b hb => ((j5 hL).lt b hb).1), .inr ⟨{ Gh.zero with a1 := some ⟨gB, 0, none⟩, c1 := cap }, by simp [mkA, Ne.symm n2, Ne.symm n4, rowG], ?_⟩⟩
      rw [setL_self, setL_ne n2, setL_ne n4, setL_ne (Ne.symm n6), upd_self, upd_ne n4]
      have lk := notk hL
      exact ⟨fun _ => ⟨lr, lm⟩, fun _ => rfl, fun h => bk_grown r3 (j3 h) (hlt (j5 hL)), (fun h => by cases h), (fun h => by cases h), fun _ => r2, (fun h => by rw [lk] at h; cases h)⟩
    · obtain ⟨hdn, lq⟩ := afterK ho hafter
      refine does_skip (hk1 o ho g x (j3 hL)) ⟨hCt _ _ hC, .inl ⟨hdn, ?_⟩⟩
      rw [setL_self, setL_ne n3, setL_ne n5, setL_ne n6]
      refine ⟨j1, fun _ => lq, (fun h => by cases h), (fun h => by rw [lq] at h; cases h), (fun h => by rw [lq] at h; cases h), fun h => ?_, fun _ => bk_here (j3 hL) _ rfl⟩
      exact ownsRow_setCell_below (j6 h) (by dsimp only; exact hbase) _
  · intro g x ⟨j1, j2, j3, j4, j5, j6, j7⟩ hC hb0
    exact hend g x hC (j7 rfl) (j6 rfl)
theorem exec_append {o : Oper} {a : Act} {x : World} (s y : Operand) (t e : TypeId) (i : TypeInfo) (z0 v : Value) (size bytes base n b : Nat) (xs ys : List Value) (tb : TypeId)
    (ho : o.op = .call { callee := .builtin .append, args := #[s, y], argTypes := #[t, t] }) (hs : a.eval s = v) (hy : a.eval y = .slice (some ⟨b, 0, none⟩) 1 1)
    (ht : P.underlying t = some (.slice e)) (hi : P.info? e = some i) (hz : i.zero = some z0) (hsize : i.size = size) (hby : i.bytes = bytes) (hzs : z0.cells.size = size) (hsz : 0 < size)
    (hown : x.ownsRow base e size v n xs) (hb : x.heap[b]? = some (.cells ys.toArray tb (0, 0))) (hl : ys.length = size) (h1 : ∀ u ∈ ys, u.oneCell' = true) (h63 : n + 1 ≤ maxLen) (hbytes : (n + 1) * bytes ≤ 140737488355328) (hbase : base ≤ x.heap.size) :
    ∃ v' x', (execOp a.eval o).run P x = .ok (.value v') x' ∧ x'.ownsRow base e size v' (n + 1) (xs ++ ys) ∧ x.grownBy x' v.ownBlock := by
  have hc : ∀ j u, ys[j]? = some u → x.cell? (Addr.add ⟨b, 0, none⟩ j) = some u := by
    intro j u hj
    have e : (Addr.add ⟨b, 0, none⟩ j) = ⟨b, j, none⟩ := by
      unfold Addr.add
      split <;> simp_all
    rw [e, bk_cell hb]
    simpa using hj
  obtain ⟨v', x', r1, r2, r3, -⟩ := run_append_own_at (P := P) x base t o.type e i z0 size bytes ht hi hz hsize hby hzs hsz v n xs hown ⟨b, 0, none⟩ 1 1 ys (by rw [hl, Nat.one_mul]) hc h1 h63 hbytes hbase
  refine ⟨v', x', ?_, r2, r3⟩
  unfold execOp
  simp only [ho, resolve, invoke, builtin, Sem.run_bind, Sem.run_pure, Result.andThen_ok, List.map_toArray, List.map_cons, List.map_nil, hs, hy, r1]
theorem run_load_slice {f : Operand → Value} {o : Oper} {t : TypeId} {p : Operand} {b off : Nat} {A : Option Addr} {n c : Nat} {x : World} (ho : o.op = .load t p) (hag : Sem.run P (isAgg t) x = .ok false x) (hp : f p = .pointer (some ⟨b, off, none⟩)) (hc : x.cell? ⟨b, off, none⟩ = some (.slice A n c)) :
    (execOp f o).run P x = .ok (.value (.slice A n c)) x := by
  unfold execOp
  rw [ho]
  simp [go_sem, hp, hc, hag]
theorem run_store_slice {f : Operand → Value} {o : Oper} {t : TypeId} {p q : Operand} {b off : Nat} {A : Option Addr} {n c : Nat} {u : Value} {x : World} (ho : o.op = .store t p q) (hsz : Sem.run P (sizeOf t) x = .ok 1 x) (hp : f p = .pointer (some ⟨b, off, none⟩)) (hq : f q = .slice A n c) (hc : x.cell? ⟨b, off, none⟩ = some u) (hf : x.frozen? ⟨b, off, none⟩ = false) :
    (execOp f o).run P x = .ok .skip (x.setCell ⟨b, off, none⟩ (.slice A n c)) := by
  unfold execOp
  rw [ho]
  simp [go_sem, hp, hq, hc, hf, hsz]
end
end Go.Proofs
