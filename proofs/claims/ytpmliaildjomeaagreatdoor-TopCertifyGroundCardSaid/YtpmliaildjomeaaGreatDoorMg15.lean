import Derived.Test.YtpmliaildjomeaaGreatDoorMg14
import Derived.Deep.AppendLies
import Derived.Test.YtpmliaildjomeaaGreatDoorMg13
set_option linter.unusedSimpArgs false
set_option linter.unusedVariables false
namespace Go.Proofs
open Go.RowKit
section
variable {P : Program}
theorem run_load_int {f : Operand → Value} {o : Oper} {t : TypeId} {p : Operand} {b off : Nat} {n : Int} {x : World} (ho : o.op = .load t p) (hag : Sem.run P (isAgg t) x = .ok false x) (hp : f p = .pointer (some ⟨b, off, none⟩)) (hc : x.cell? ⟨b, off, none⟩ = some (.int .i64 n)) :
    (execOp f o).run P x = .ok (.value (.int .i64 n)) x := by
  unfold execOp
  rw [ho]
  simp [go_sem, hp, hc, hag]
theorem run_store_int {f : Operand → Value} {o : Oper} {t : TypeId} {p q : Operand} {b off : Nat} {n : Int} {u : Value} {x : World} (ho : o.op = .store t p q) (hsz : Sem.run P (sizeOf t) x = .ok 1 x) (hp : f p = .pointer (some ⟨b, off, none⟩)) (hq : f q = .int .i64 n) (hc : x.cell? ⟨b, off, none⟩ = some u) (hf : x.frozen? ⟨b, off, none⟩ = false) :
    (execOp f o).run P x = .ok .skip (x.setCell ⟨b, off, none⟩ (.int .i64 n)) := by
  unfold execOp
  rw [ho]
  simp [go_sem, hp, hq, hc, hf, hsz]
/-- A drawn region: 'c' makes a row, 'm' a block, 'k' (behind both) writes into the block; all else is quiet. -/
def mkMAS (c n : Nat) : Nat → Gh → Value := fun j h => if j = c then .slice (some ⟨h.b, 0, none⟩) n n else .pointer (some ⟨h.b, 0, none⟩)
theorem region_mas {id : Nat} {Q : Exit → Act → World → Prop} {a0 : Act} {w : World} {l : List Oper} (w0 : World) (c m k n : Nat) (z1 z2 : Obj) (y2 : Gh → Obj) (af : (Nat → Gh) → Act) (hm : P.follows .mixedOrders = true)
    (hB : slotsOk l.toArray = true) (hB' : ∀ g, slotsOk (mixL [c, m, k] (mkMAS c n) g 0 l).toArray = true) (hS : Region.noSelect l.toArray = true) (hN : spB l.toArray [c, m, k] = true)
    (hne : c ≠ m ∧ c ≠ k ∧ m ≠ k) (hkd : (match l[k]? with | some o => o.dst.isNone | none => false) = true)
    (hcl : ∀ L : Nat → Bool, (∀ (i : Nat) (o : Oper), l[i]? = some o → L i = true → ∀ e ∈ o.after, Region.binds .any e = true → L e.on = true) → ∀ o, l[k]? = some o → (∀ e ∈ o.after, Region.binds .any e = true → L e.on = true) → L c = true ∧ L m = true)
    (hw : Below w0.heap.size w0 w)
    (hal1 : ∀ o, l[c]? = some o → ∀ (g : Nat → Gh) (x : World), Below w.heap.size w x → (execOp (af g).eval o).run P x = .ok (.value (.slice (some ⟨x.heap.size, 0, none⟩) n n)) (x.alloc z1))
    (hal2 : ∀ o, l[m]? = some o → ∀ (g : Nat → Gh) (x : World), (execOp (af g).eval o).run P x = .ok (.value (.pointer (some ⟨x.heap.size, 0, none⟩))) (x.alloc z2))
    (hq : ∀ g u, Below w.heap.size w u → (∀ (x : Grew u) (b o : Nat), b < u.heap.size → x.val.cell? ⟨b, o, none⟩ = u.cell? ⟨b, o, none⟩) → Hid (∀ x : Grew u, Below w0.heap.size w0 x.val) → Hid (∀ x : Grew u, Below w.heap.size w x.val) →
      wpQuiet P (mixL [c, m, k] (mkMAS c n) g 0 l).toArray (fun w' => ∃ x : Grew u, w' = x.val) (fun a' => a' = af g) (mixL [c, m, k] (mkMAS c n) g 0 l) a0)
    (hind : ∀ j ∈ [c, m, k], ∀ g h, maskL (coneS l.toArray j 0 l []) 0 (af g).tmps.toList = maskL (coneS l.toArray j 0 l []) 0 (af (upd g j h)).tmps.toList)
    (hs : ∀ o, l[k]? = some o → ∀ (g : Nat → Gh) (x : World), Below w.heap.size w x → x.heap[(g m).b]? = some z2 → ∃ x', (execOp (af g).eval o).run P x = .ok .skip x' ∧ OnlyB (g m).b x x' ∧ x'.heap[(g m).b]? = some (y2 (g c)))
    (hend : ∀ (g : Nat → Gh) (x : World), w.heap.size ≤ (g c).b → w.heap.size ≤ (g m).b → (g c).b ≠ (g m).b → Below w.heap.size w x → Below w0.heap.size w0 x → x.heap[(g c).b]? = some z1 → x.heap[(g m).b]? = some (y2 (g c)) → Q .normal (af g) x) :
    (Code.region id l.toArray true).wp P Q a0 w := by
  obtain ⟨n1, n2, n3⟩ := hne
  refine region_mixL w0 (fun x => Below w.heap.size w x) [c, m, k] (mkMAS c n) (fun L g x => (L c = false → L k = false) ∧ (L m = false → L k = false) ∧ (L c = true → w.heap.size ≤ (g c).b ∧ x.heap[(g c).b]? = some z1) ∧
      (L m = true → w.heap.size ≤ (g m).b ∧ x.heap[(g m).b]? = some (if L k = true then y2 (g c) else z2)) ∧ (L c = true → L m = true → (g c).b ≠ (g m).b)) af hm hB hB' hS hN (Below.refl _ _) (fun x x' h hb => h.trans (hb.mono h.size)) (fun x h => via hw h) ?_ ?_ hq hind ?_ ?_
  · intro L h
    have a1 := h c (by simp)
    have a2 := h m (by simp)
    have a3 := h k (by simp)
    refine ⟨fun _ => a3, fun _ => a3, fun h => ?_, fun h => ?_, fun h => ?_⟩
    · rw [a1] at h; cases h
    · rw [a2] at h; cases h
    · rw [a1] at h; cases h
  · rintro L L' g x x' h ⟨h1, h2, h3, h4, h5⟩ hb
    rw [h c (by simp), h m (by simp), h k (by simp)]
    exact ⟨h1, h2, fun hl => ⟨(h3 hl).1, bk_keep hb (h3 hl).2⟩, fun hl => ⟨(h4 hl).1, bk_keep hb (h4 hl).2⟩, h5⟩
  · intro j hj o ho L g x ⟨h1, h2, h3, h4, h5⟩ hbx hb0 hL hafter hclo
    simp only [List.mem_cons, List.not_mem_nil, or_false] at hj
    rcases hj with rfl | rfl | rfl
    · have hk := h1 hL
      refine does_value (hal1 o ho g x hbx) ⟨via_alloc hbx _, .inr ⟨{ Gh.zero with b := x.heap.size }, by unfold mkMAS; rw [if_pos rfl], ?_, ?_, ?_, ?_, ?_⟩⟩
      · intro h; rw [setL_self] at h; cases h
      · intro h
        rw [setL_ne (Ne.symm n2)]
        exact hk
      · intro _
        rw [upd_self]
        exact ⟨hbx.size, bk_new _ _ rfl⟩
      · intro h
        rw [setL_ne (Ne.symm n1)] at h
        rw [setL_ne (Ne.symm n2), upd_ne (Ne.symm n1), hk]
        have := h4 h
        rw [hk] at this
        exact ⟨this.1, bk_alloc this.2 _⟩
      · intro _ h
        rw [setL_ne (Ne.symm n1)] at h
        rw [upd_self, upd_ne (Ne.symm n1)]
        have := bk_size (h4 h).2
        dsimp only
        omega
    · have hk := h2 hL
      refine does_value (hal2 o ho g x) ⟨via_alloc hbx _, .inr ⟨{ Gh.zero with b := x.heap.size }, by unfold mkMAS; rw [if_neg (Ne.symm n1)], ?_, ?_, ?_, ?_, ?_⟩⟩
      · intro h
        rw [setL_ne (Ne.symm n3)]
        exact hk
      · intro h; rw [setL_self] at h; cases h
      · intro h
        rw [setL_ne n1] at h
        rw [upd_ne n1]
        exact ⟨(h3 h).1, bk_alloc (h3 h).2 _⟩
      · intro _
        rw [upd_self, setL_ne (Ne.symm n3), hk]
        exact ⟨hbx.size, bk_new _ _ rfl⟩
      · intro h _
        rw [setL_ne n1] at h
        rw [upd_self, upd_ne n1]
        have := bk_size (h3 h).2
        dsimp only
        omega
    · obtain ⟨lc, lm⟩ := hcl L hclo o ho hafter
      obtain ⟨p1, p2⟩ := h4 lm
      rw [if_neg (by rw [hL]; decide)] at p2
      obtain ⟨x', r1, r2, r3⟩ := hs o ho g x hbx p2
      rw [ho] at hkd
      refine does_skip r1 ⟨hbx.trans (r2.below _ p1), .inl ⟨by simpa using hkd, ?_, ?_, ?_, ?_, ?_⟩⟩
      · intro h; rw [setL_ne n2, lc] at h; cases h
      · intro h; rw [setL_ne n3, lm] at h; cases h
      · intro _
        exact ⟨(h3 lc).1, r2.keep (h5 lc lm) (h3 lc).2⟩
      · intro _
        rw [setL_self, if_pos rfl]
        exact ⟨p1, r3⟩
      · intro _ _
        exact h5 lc lm
  · rintro g x ⟨h1, h2, h3, h4, h5⟩ hbx hb0
    have := h4 rfl
    rw [if_pos rfl] at this
    exact hend g x (h3 rfl).1 this.1 (h5 rfl rfl) hbx hb0 (h3 rfl).2 this.2
/-- A drawn region that reads two cells of a block and writes them: 'p', 'q' read; 'k', 'r' (behind both) write; all else is quiet. -/
theorem region_rrss {id : Nat} {Q : Exit → Act → World → Prop} {a0 : Act} {w : World} {l : List Oper} (w0 : World) (p q k r : Nat) (b : Nat) (vp vq : Value) (zz : Bool → Bool → Obj) (af : (Nat → Gh) → Act) (hm : P.follows .mixedOrders = true)
    (hB : slotsOk l.toArray = true) (hB' : ∀ g, slotsOk (mixL [p, q, k, r] (fun j _ => if j = p then vp else vq) g 0 l).toArray = true) (hS : Region.noSelect l.toArray = true) (hN : spB l.toArray [p, q, k, r] = true)
    (hne : p ≠ q ∧ p ≠ k ∧ p ≠ r ∧ q ≠ k ∧ q ≠ r ∧ k ≠ r) (hkd : (match l[k]?, l[r]? with | some o, some o' => o.dst.isNone && o'.dst.isNone | _, _ => false) = true)
    (hcl : ∀ L : Nat → Bool, (∀ (i : Nat) (o : Oper), l[i]? = some o → L i = true → ∀ e ∈ o.after, Region.binds .any e = true → L e.on = true) → ((L k = true → L p = true ∧ L q = true) ∧ (L r = true → L p = true ∧ L q = true)) ∧ (∀ o, l[k]? = some o → (∀ e ∈ o.after, Region.binds .any e = true → L e.on = true) → L p = true ∧ L q = true) ∧ (∀ o, l[r]? = some o → (∀ e ∈ o.after, Region.binds .any e = true → L e.on = true) → L p = true ∧ L q = true))
    (hw : Below w0.heap.size w0 w) (hb : w0.heap.size ≤ b) (hb0 : w.heap[b]? = some (zz false false))
    (hp : ∀ o, l[p]? = some o → ∀ (g : Nat → Gh) (x : World), x.heap[b]? = some (zz false false) → (execOp (af g).eval o).run P x = .ok (.value vp) x)
    (hqq : ∀ o, l[q]? = some o → ∀ (g : Nat → Gh) (x : World), x.heap[b]? = some (zz false false) → (execOp (af g).eval o).run P x = .ok (.value vq) x)
    (hq : ∀ g u, w.grownBy u (some b) → (∀ (x : Grew u) (b o : Nat), b < u.heap.size → x.val.cell? ⟨b, o, none⟩ = u.cell? ⟨b, o, none⟩) → Hid (∀ x : Grew u, Below w0.heap.size w0 x.val) → Hid (∀ x : Grew u, w.grownBy x.val (some b)) →
      wpQuiet P (mixL [p, q, k, r] (fun j _ => if j = p then vp else vq) g 0 l).toArray (fun w' => ∃ x : Grew u, w' = x.val) (fun a' => a' = af g) (mixL [p, q, k, r] (fun j _ => if j = p then vp else vq) g 0 l) a0)
    (hind : ∀ j ∈ [p, q, k, r], ∀ g h, maskL (coneS l.toArray j 0 l []) 0 (af g).tmps.toList = maskL (coneS l.toArray j 0 l []) 0 (af (upd g j h)).tmps.toList)
    (hs1 : ∀ o, l[k]? = some o → ∀ (f : Bool) (g : Nat → Gh) (x : World), x.heap[b]? = some (zz false f) → ∃ x', (execOp (af g).eval o).run P x = .ok .skip x' ∧ OnlyB b x x' ∧ x'.heap[b]? = some (zz true f))
    (hs2 : ∀ o, l[r]? = some o → ∀ (f : Bool) (g : Nat → Gh) (x : World), x.heap[b]? = some (zz f false) → ∃ x', (execOp (af g).eval o).run P x = .ok .skip x' ∧ OnlyB b x x' ∧ x'.heap[b]? = some (zz f true))
    (hend : ∀ (g : Nat → Gh) (x : World), w.grownBy x (some b) → Below w0.heap.size w0 x → x.heap[b]? = some (zz true true) → Q .normal (af g) x) :
    (Code.region id l.toArray true).wp P Q a0 w := by
  obtain ⟨n1, n2, n3, n4, n5, n6⟩ := hne
  have hOB : ∀ {x x' : World}, OnlyB b x x' → x.grownBy x' (some b) := fun {x x'} h => ⟨(h.below 0 (Nat.zero_le _)).os, (h.below 0 (Nat.zero_le _)).tape, (h.below 0 (Nat.zero_le _)).output, (h.below 0 (Nat.zero_le _)).size, fun i _ hi => h.other i fun e => hi (by rw [e])⟩
  have hgt : ∀ {x x' y : World}, x.grownBy x' (some b) → x'.grownBy y (some b) → x.grownBy y (some b) := fun h k => World.grownBy.trans h k
  refine region_mixL w0 (fun x => w.grownBy x (some b)) [p, q, k, r] _ (fun L g x => x.heap[b]? = some (zz (L k) (L r))) af hm hB hB' hS hN ⟨rfl, rfl, rfl, Nat.le_refl _, fun _ _ _ => rfl⟩ (fun x x' h hb => hgt h ⟨hb.os, hb.tape, hb.output, hb.size, fun k hk _ => hb.block k hk⟩) (fun x h => grown_below' hw h fun i e => by cases e; exact hb) ?_ ?_ hq hind ?_ ?_
  · intro L h
    rw [h k (by simp), h r (by simp)]
    exact hb0
  · rintro L L' g x x' h hx hbx
    rw [h k (by simp), h r (by simp)]
    exact bk_keep hbx hx
  · intro j hj o ho L g x hx hC hB0 hL hafter hclo
    obtain ⟨⟨c1, c2⟩, c3, c4⟩ := hcl L hclo
    simp only [List.mem_cons, List.not_mem_nil, or_false] at hj
    rcases hj with rfl | rfl | rfl | rfl
    · have hk : L k = false := by cases h : L k; rfl; have := (c1 h).1; rw [hL] at this; cases this
      have hr : L r = false := by cases h : L r; rfl; have := (c2 h).1; rw [hL] at this; cases this
      rw [hk, hr] at hx
      refine does_value (hp o ho g x hx) ⟨hC, .inr ⟨Gh.zero, by rw [if_pos rfl], ?_⟩⟩
      rw [setL_ne (Ne.symm n2), setL_ne (Ne.symm n3), hk, hr]
      exact hx
    · have hk : L k = false := by cases h : L k; rfl; have := (c1 h).2; rw [hL] at this; cases this
      have hr : L r = false := by cases h : L r; rfl; have := (c2 h).2; rw [hL] at this; cases this
      rw [hk, hr] at hx
      refine does_value (hqq o ho g x hx) ⟨hC, .inr ⟨Gh.zero, by rw [if_neg (Ne.symm n1)], ?_⟩⟩
      rw [setL_ne (Ne.symm n4), setL_ne (Ne.symm n5), hk, hr]
      exact hx
    · rw [hL] at hx
      obtain ⟨x', r1, r2, r3⟩ := hs1 o ho _ g x hx
      refine does_skip r1 ⟨hgt hC (hOB r2), .inl ⟨?_, ?_⟩⟩
      · rw [ho] at hkd
        split at hkd
        · rename_i e1 e2
          cases e1
          simp only [Bool.and_eq_true] at hkd
          simpa using hkd.1
        · cases hkd
      · rw [setL_self, setL_ne (Ne.symm n6)]
        exact r3
    · rw [hL] at hx
      obtain ⟨x', r1, r2, r3⟩ := hs2 o ho _ g x hx
      refine does_skip r1 ⟨hgt hC (hOB r2), .inl ⟨?_, ?_⟩⟩
      · rw [ho] at hkd
        split at hkd
        · rename_i e1 e2
          cases e2
          simp only [Bool.and_eq_true] at hkd
          simpa using hkd.2
        · cases hkd
      · rw [setL_self, setL_ne n6]
        exact r3
  · intro g x hx hC hB0
    exact hend g x hC hB0 hx
end
end Go.Proofs

set_option linter.unusedSimpArgs false
set_option linter.unusedVariables false
namespace Go.Proofs
open Go.RowKit
section
variable {P : Program}
/-- What a region that makes rows keeps: all that there was, but the list's own block. -/
def KeepC (w0 w : World) (v : Value) (x : World) : Prop := Below w0.heap.size w0 x ∧ w.heap.size ≤ x.heap.size ∧ ∀ k, k < w.heap.size → some k ≠ v.ownBlock → x.heap[k]? = w.heap[k]?
theorem KeepC.refl {w0 w : World} {v : Value} (h : Below w0.heap.size w0 w) : KeepC w0 w v w := ⟨h, Nat.le_refl _, fun _ _ _ => rfl⟩
theorem KeepC.below {w0 w x x' : World} {v : Value} (h : KeepC w0 w v x) (hb : Below x.heap.size x x') : KeepC w0 w v x' := ⟨via h.1 hb, Nat.le_trans h.2.1 hb.size, fun k hk hv => (hb.block k (Nat.lt_of_lt_of_le hk h.2.1)).trans (h.2.2 k hk hv)⟩
theorem KeepC.grown {w0 w x x' : World} {v : Value} {row : Option Nat} (h : KeepC w0 w v x) (hw : w0.heap.size ≤ w.heap.size) (hv0 : ∀ r, v.ownBlock = some r → w0.heap.size ≤ r) (hg : x.grownBy x' row) (hr : ∀ r, row = some r → w.heap.size ≤ r ∨ v.ownBlock = some r) : KeepC w0 w v x' :=
  ⟨grown_below h.1 hg fun b e => by
    rcases hr b e with h1 | h1
    · omega
    · exact hv0 b h1, Nat.le_trans h.2.1 hg.size, fun k hk hv => (hg.block k (Nat.lt_of_lt_of_le hk h.2.1) fun e => by
      rcases hr k e.symm with h1 | h1
      · omega
      · exact hv h1.symm).trans (h.2.2 k hk hv)⟩
def mkR6 (m0 c m1 q1 m2 n nq : Nat) : Nat → Gh → Value := fun j g => if j = m0 then .slice (some ⟨g.b, 0, none⟩) 0 0 else if j = c then .slice g.a1 n g.c1 else if j = m1 then .slice (some ⟨g.b, 0, none⟩) 1 1 else if j = m2 then .slice (some ⟨g.b, 0, none⟩) 1 1 else if j = q1 then .slice g.a1 (n + 1) g.c1 else .slice g.a1 (nq + 1) g.c1
/-- A drawn region: 'm0' makes an empty list, 'c' appends a list to it (a copy), 'm1' makes a row of one, 'q1' appends it; 'm2' makes a row that holds the new list, 'q2' appends it to a list of rows; all else is quiet. -/
theorem any_row6 {Q : Exit → Act → World → Prop} {a0 : Act} {w : World} {l : List Oper} (w0 : World) (m0 c m1 q1 m2 q2 : Nat) (n nq : Nat) (e1 : TypeId) (xs ys : List Value) (z0 z1 : Obj) (z2 : Gh → Obj) (row : Gh → List Value) (bq : Nat) (te : TypeId) (v : Value) (qs : List Value) (af : (Nat → Gh) → Act)
    (hB : slotsOk l.toArray = true) (hB' : ∀ g, slotsOk (mixL [m0, c, m1, q1, m2, q2] (mkR6 m0 c m1 q1 m2 n nq) g 0 l).toArray = true) (hS : Region.noSelect l.toArray = true) (hN : spB l.toArray [m0, c, m1, q1, m2, q2] = true)
    (hne : m0 ≠ c ∧ m0 ≠ m1 ∧ m0 ≠ q1 ∧ m0 ≠ m2 ∧ m0 ≠ q2 ∧ c ≠ m1 ∧ c ≠ q1 ∧ c ≠ m2 ∧ c ≠ q2 ∧ m1 ≠ q1 ∧ m1 ≠ m2 ∧ m1 ≠ q2 ∧ q1 ≠ m2 ∧ q1 ≠ q2 ∧ m2 ≠ q2)
    (hd1 : ∀ L : Nat → Bool, (∀ (i : Nat) (o : Oper), l[i]? = some o → L i = true → ∀ e ∈ o.after, Region.binds .any e = true → L e.on = true) → (∀ o, l[q1]? = some o → (∀ e ∈ o.after, Region.binds .any e = true → L e.on = true) → L c = true ∧ L m1 = true) ∧ (∀ o, l[m2]? = some o → (∀ e ∈ o.after, Region.binds .any e = true → L e.on = true) → L q1 = true) ∧ (∀ o, l[q2]? = some o → (∀ e ∈ o.after, Region.binds .any e = true → L e.on = true) → L m2 = true))
    (hw : Below w0.heap.size w0 w) (hv0 : ∀ r, v.ownBlock = some r → w0.heap.size ≤ r) (hown : w.ownsRow bq te 1 v nq qs)
    (hal0 : ∀ o, l[m0]? = some o → ∀ (g : Nat → Gh) (x : World), (execOp (af g).eval o).run P x = .ok (.value (.slice (some ⟨x.heap.size, 0, none⟩) 0 0)) (x.alloc z0))
    (hcl : ∀ o, l[c]? = some o → ∀ (g : Nat → Gh) (x : World), KeepC w0 w v x → ∃ v' x', (execOp (af g).eval o).run P x = .ok (.value v') x' ∧ x'.ownsRow w.heap.size e1 1 v' n xs ∧ Below x.heap.size x x')
    (hal1 : ∀ o, l[m1]? = some o → ∀ (g : Nat → Gh) (x : World), (execOp (af g).eval o).run P x = .ok (.value (.slice (some ⟨x.heap.size, 0, none⟩) 1 1)) (x.alloc z1))
    (hap1 : ∀ o, l[q1]? = some o → ∀ (g : Nat → Gh) (x : World), KeepC w0 w v x → x.ownsRow w.heap.size e1 1 (.slice (g c).a1 n (g c).c1) n xs → x.heap[(g m1).b]? = some z1 → ∃ v' x', (execOp (af g).eval o).run P x = .ok (.value v') x' ∧ x'.ownsRow w.heap.size e1 1 v' (n + 1) (xs ++ ys) ∧ x.grownBy x' (Value.slice (g c).a1 n (g c).c1).ownBlock)
    (hal2 : ∀ o, l[m2]? = some o → ∀ (g : Nat → Gh) (x : World), (execOp (af g).eval o).run P x = .ok (.value (.slice (some ⟨x.heap.size, 0, none⟩) 1 1)) (x.alloc (z2 (g q1))))
    (hap2 : ∀ o, l[q2]? = some o → ∀ (g : Nat → Gh) (x : World), KeepC w0 w v x → x.ownsRow bq te 1 v nq qs → x.heap[(g m2).b]? = some (z2 (g q1)) → ∃ v' x', (execOp (af g).eval o).run P x = .ok (.value v') x' ∧ x'.ownsRow bq te 1 v' (nq + 1) (qs ++ row (g q1)) ∧ x.grownBy x' v.ownBlock ∧ (v'.ownBlock = v.ownBlock ∨ v'.ownBlock = some x.heap.size))
    (hq : ∀ g u, KeepC w0 w v u → (∀ (x : Grew u) (b o : Nat), b < u.heap.size → x.val.cell? ⟨b, o, none⟩ = u.cell? ⟨b, o, none⟩) → Hid (∀ x : Grew u, Below w0.heap.size w0 x.val) → Hid (∀ x : Grew u, KeepC w0 w v x.val) →
      wpQuiet P (mixL [m0, c, m1, q1, m2, q2] (mkR6 m0 c m1 q1 m2 n nq) g 0 l).toArray (fun w' => ∃ x : Grew u, w' = x.val) (fun a' => a' = af g) (mixL [m0, c, m1, q1, m2, q2] (mkR6 m0 c m1 q1 m2 n nq) g 0 l) a0)
    (hind : ∀ j ∈ [m0, c, m1, q1, m2, q2], ∀ g h, maskL (coneS l.toArray j 0 l []) 0 (af g).tmps.toList = maskL (coneS l.toArray j 0 l []) 0 (af (upd g j h)).tmps.toList)
    (hend : ∀ (g : Nat → Gh) (x : World), KeepC w0 w v x → x.ownsRow w.heap.size e1 1 (.slice (g q1).a1 (n + 1) (g q1).c1) (n + 1) (xs ++ ys) → x.ownsRow bq te 1 (.slice (g q2).a1 (nq + 1) (g q2).c1) (nq + 1) (qs ++ row (g q1)) →
      ((Value.slice (g q2).a1 (nq + 1) (g q2).c1).ownBlock = v.ownBlock ∨ ∃ r, (Value.slice (g q2).a1 (nq + 1) (g q2).c1).ownBlock = some r ∧ w.heap.size ≤ r ∧ some r ≠ (Value.slice (g q1).a1 (n + 1) (g q1).c1).ownBlock) → Q .normal (af g) x) :
    wpAny P .any l.toArray Q l.toArray.size (Array.replicate l.toArray.size false) a0 { w with drawn := w.drawn + 1 } := by
  obtain ⟨o1, o2, o3, o4, o5, n1, n2, n3, n4, n5, n6, n7, n8, n9, n10⟩ := hne
  have hvb : ∀ r, v.ownBlock = some r → r < w.heap.size := fun r e => (hown.lt r e).2
  refine any_mixC w0 (KeepC w0 w v) [m0, c, m1, q1, m2, q2] (mkR6 m0 c m1 q1 m2 n nq) (fun L g x => ((L q1 = true → L c = true ∧ L m1 = true) ∧ (L m2 = true → L q1 = true) ∧ (L q2 = true → L m2 = true)) ∧
      (L q1 = false → L c = true → x.ownsRow w.heap.size e1 1 (.slice (g c).a1 n (g c).c1) n xs) ∧ (L q1 = false → L m1 = true → w.heap.size ≤ (g m1).b ∧ x.heap[(g m1).b]? = some z1) ∧
      (L q1 = true → x.ownsRow w.heap.size e1 1 (.slice (g q1).a1 (n + 1) (g q1).c1) (n + 1) (xs ++ ys)) ∧ (L q2 = false → L m2 = true → w.heap.size ≤ (g m2).b ∧ x.heap[(g m2).b]? = some (z2 (g q1))) ∧ (L q2 = false → x.ownsRow bq te 1 v nq qs) ∧
      (L q2 = true → x.ownsRow bq te 1 (.slice (g q2).a1 (nq + 1) (g q2).c1) (nq + 1) (qs ++ row (g q1)) ∧ ((Value.slice (g q2).a1 (nq + 1) (g q2).c1).ownBlock = v.ownBlock ∨ ∃ r, (Value.slice (g q2).a1 (nq + 1) (g q2).c1).ownBlock = some r ∧ w.heap.size ≤ r ∧ some r ≠ (Value.slice (g q1).a1 (n + 1) (g q1).c1).ownBlock))) af hB hB' hS hN (KeepC.refl hw) (fun x x' h hb => h.below hb) (fun x h => h.1) ?_ ?_ hq hind ?_ ?_
  · intro L h
    have a1 := h c (by simp)
    have a2 := h m1 (by simp)
    have a3 := h q1 (by simp)
    have a4 := h m2 (by simp)
    have a5 := h q2 (by simp)
    rw [a1, a2, a3, a4, a5]
    exact ⟨⟨(fun h => by cases h), (fun h => by cases h), (fun h => by cases h)⟩, (fun _ h => by cases h), (fun _ h => by cases h), (fun h => by cases h), (fun _ h => by cases h), fun _ => hown, (fun h => by cases h)⟩
  · rintro L L' g x x' h ⟨j0, j1, j2, j3, j4, j5, j6⟩ hb
    have a1 := h c (by simp)
    have a2 := h m1 (by simp)
    have a3 := h q1 (by simp)
    have a4 := h m2 (by simp)
    have a5 := h q2 (by simp)
    rw [a1, a2, a3, a4, a5]
    exact ⟨j0, fun h h' => owns_below (j1 h h') hb, fun h h' => ⟨(j2 h h').1, bk_keep hb (j2 h h').2⟩, fun h => owns_below (j3 h) hb, fun h h' => ⟨(j4 h h').1, bk_keep hb (j4 h h').2⟩, fun h => owns_below (j5 h) hb, fun h => ⟨owns_below (j6 h).1 hb, (j6 h).2⟩⟩
  · intro j hj o ho L g x ⟨⟨k1, k2, k3⟩, j1, j2, j3, j4, j5, j6⟩ hC hb0 hL hafter hclo
    obtain ⟨d1, d2, d3⟩ := hd1 L hclo
    have nq1 : L q1 = false → L m2 = false ∧ L q2 = false := fun h => by
      have a : L m2 = false := by
        cases hh : L m2 with
        | false => rfl
        | true => rw [k2 hh] at h; cases h
      refine ⟨a, ?_⟩
      cases hh : L q2 with
      | false => rfl
      | true => rw [k3 hh] at a; cases a
    have nm2 : L m2 = false → L q2 = false := fun h => by
      cases hh : L q2 with
      | false => rfl
      | true => rw [k3 hh] at h; cases h
    have nc : L c = false → L q1 = false := fun h => by
      cases hh : L q1 with
      | false => rfl
      | true => rw [(k1 hh).1] at h; cases h
    have nm1 : L m1 = false → L q1 = false := fun h => by
      cases hh : L q1 with
      | false => rfl
      | true => rw [(k1 hh).2] at h; cases h
    simp only [List.mem_cons, List.not_mem_nil, or_false] at hj
    rcases hj with rfl | rfl | rfl | rfl | rfl | rfl
    · refine does_value (hal0 o ho g x) ⟨hC.below (new_below _ _), .inr ⟨{ Gh.zero with b := x.heap.size }, by simp [mkR6], ?_⟩⟩
      rw [setL_ne (Ne.symm o1), setL_ne (Ne.symm o2), setL_ne (Ne.symm o3), setL_ne (Ne.symm o4), setL_ne (Ne.symm o5), upd_ne (Ne.symm o1), upd_ne (Ne.symm o2), upd_ne (Ne.symm o3), upd_ne (Ne.symm o4), upd_ne (Ne.symm o5)]
      have hb := new_below x z0
      exact ⟨⟨k1, k2, k3⟩, fun h h' => owns_below (j1 h h') hb, fun h h' => ⟨(j2 h h').1, bk_keep hb (j2 h h').2⟩, fun h => owns_below (j3 h) hb, fun h h' => ⟨(j4 h h').1, bk_keep hb (j4 h h').2⟩, fun h => owns_below (j5 h) hb, fun h => ⟨owns_below (j6 h).1 hb, (j6 h).2⟩⟩
    · have l1 := nc hL
      obtain ⟨l2, l3⟩ := nq1 l1
      obtain ⟨v', x', r1, p1, p2⟩ := hcl o ho g x hC
      obtain ⟨A, cp, rfl⟩ := own_slice p1
      refine does_value r1 ⟨hC.below p2, .inr ⟨{ Gh.zero with a1 := A, c1 := cp }, by simp [mkR6, Ne.symm o1], ?_⟩⟩
      rw [setL_self, setL_ne (Ne.symm n1), setL_ne (Ne.symm n2), setL_ne (Ne.symm n3), setL_ne (Ne.symm n4), upd_self, upd_ne (Ne.symm n1), upd_ne (Ne.symm n2), upd_ne (Ne.symm n3), upd_ne (Ne.symm n4), l1, l2, l3]
      exact ⟨⟨(fun h => by cases h), (fun h => by cases h), (fun h => by cases h)⟩, fun _ _ => p1, fun h h' => ⟨(j2 l1 h').1, bk_keep p2 (j2 l1 h').2⟩, (fun h => by cases h), (fun _ h => by cases h), fun _ => owns_below (j5 l3) p2, (fun h => by cases h)⟩
    · have l1 := nm1 hL
      obtain ⟨l2, l3⟩ := nq1 l1
      refine does_value (hal1 o ho g x) ⟨hC.below (new_below _ _), .inr ⟨{ Gh.zero with b := x.heap.size }, by simp [mkR6, Ne.symm n1, Ne.symm o2], ?_⟩⟩
      rw [setL_self, setL_ne n1, setL_ne (Ne.symm n5), setL_ne (Ne.symm n6), setL_ne (Ne.symm n7), upd_self, upd_ne n1, upd_ne (Ne.symm n5), upd_ne (Ne.symm n6), upd_ne (Ne.symm n7), l1, l2, l3]
      exact ⟨⟨(fun h => by cases h), (fun h => by cases h), (fun h => by cases h)⟩, fun _ h => owns_below (j1 l1 h) (new_below _ _), fun _ _ => ⟨hC.2.1, bk_new _ _ rfl⟩, (fun h => by cases h), (fun _ h => by cases h), fun _ => owns_below (j5 l3) (new_below _ _), (fun h => by cases h)⟩
    · obtain ⟨lc, lm⟩ := d1 o ho hafter
      obtain ⟨l2, l3⟩ := nq1 hL
      have hown1 := j1 hL lc
      obtain ⟨v', x', r1, r2, r3⟩ := hap1 o ho g x hC hown1 (j2 hL lm).2
      obtain ⟨gB, cap, rfl⟩ := own_slice r2
      have hr : ∀ r, (Value.slice (g c).a1 n (g c).c1).ownBlock = some r → w.heap.size ≤ r := fun r e => (hown1.lt r e).1
      refine does_value r1 ⟨hC.grown (by have := hw.size; exact this) hv0 r3 (fun r e => .inl (hr r e)), .inr ⟨{ Gh.zero with a1 := gB, c1 := cap }, by simp [mkR6, Ne.symm n2, Ne.symm n5, n8, Ne.symm o3], ?_⟩⟩
      rw [setL_self, setL_ne n2, setL_ne n5, setL_ne (Ne.symm n8), setL_ne (Ne.symm n9), upd_self, upd_ne n2, upd_ne n5, upd_ne (Ne.symm n8), upd_ne (Ne.symm n9), l2, l3]
      refine ⟨⟨fun _ => ⟨lc, lm⟩, (fun h => by cases h), (fun h => by cases h)⟩, (fun h => by cases h), (fun h => by cases h), fun _ => r2, (fun _ h => by cases h), fun _ => owns_kept (j5 l3) fun r e => r3.block r ?_ ?_, (fun h => by cases h)⟩
      · exact Nat.lt_of_lt_of_le (hvb r e) hC.2.1
      · intro e'
        have := hr r e'.symm
        have := hvb r e
        omega
    · have l1 := d2 o ho hafter
      have l3 := nm2 hL
      refine does_value (hal2 o ho g x) ⟨hC.below (new_below _ _), .inr ⟨{ Gh.zero with b := x.heap.size }, by simp [mkR6, Ne.symm n3, Ne.symm n6, Ne.symm o4], ?_⟩⟩
      rw [setL_self, setL_ne n3, setL_ne n6, setL_ne n8, setL_ne (Ne.symm n10), upd_self, upd_ne n3, upd_ne n6, upd_ne n8, upd_ne (Ne.symm n10), l1, l3]
      exact ⟨⟨fun _ => k1 l1, fun _ => rfl, (fun h => by cases h)⟩, (fun h => by cases h), (fun h => by cases h), fun _ => owns_below (j3 l1) (new_below _ _), fun _ _ => ⟨hC.2.1, bk_new _ _ rfl⟩, fun _ => owns_below (j5 l3) (new_below _ _), (fun h => by cases h)⟩
    · have lm := d3 o ho hafter
      have l1 := k2 lm
      obtain ⟨v', x', r1, r2, r3, r4⟩ := hap2 o ho g x hC (j5 hL) (j4 hL lm).2
      obtain ⟨gB, cap, rfl⟩ := own_slice r2
      have hown1 := j3 l1
      refine does_value r1 ⟨hC.grown hw.size hv0 r3 (fun r e => .inr e), .inr ⟨{ Gh.zero with a1 := gB, c1 := cap }, by simp [mkR6, Ne.symm n4, Ne.symm n7, Ne.symm n9, Ne.symm n10, Ne.symm o5], ?_⟩⟩
      rw [setL_self, setL_ne n4, setL_ne n7, setL_ne n9, setL_ne n10, upd_self, upd_ne n4, upd_ne n7, upd_ne n9, upd_ne n10, l1, lm]
      refine ⟨⟨fun _ => k1 l1, fun _ => rfl, fun _ => rfl⟩, (fun h => by cases h), (fun h => by cases h), fun _ => owns_kept hown1 fun r e => r3.block r ?_ ?_, (fun h => by cases h), (fun h => by cases h), fun _ => ⟨r2, ?_⟩⟩
      · exact (hown1.lt r e).2
      · intro e'
        have := (hown1.lt r e).1
        have := hvb r e'.symm
        omega
      · rcases r4 with h | h
        · exact .inl h
        · refine .inr ⟨_, h, hC.2.1, fun e => ?_⟩
          have := (hown1.lt _ e.symm).2
          omega
  · rintro g x ⟨-, -, -, j3, -, -, j6⟩ hC hb0
    exact hend g x hC (j3 rfl) (j6 rfl).1 (j6 rfl).2
/-- 'append([]int{}, xs...)', as an operation. -/
theorem exec_append_fresh {f : Operand → Value} {o : Oper} {x : World} (s y : Operand) (t e : TypeId) (i : TypeInfo) (z0 : Value) (bytes base b c n : Nat) {A : Option Addr} {l : List Int} (hn : l.length = n)
    (ho : o.op = .call { callee := .builtin .append, args := #[s, y], argTypes := #[t, t] }) (hs : f s = .slice (some ⟨b, 0, none⟩) 0 0) (hy : f y = .slice A n c)
    (ht : P.underlying t = some (.slice e)) (hi : P.info? e = some i) (hz : i.zero = some z0) (hsize : i.size = 1) (hby : i.bytes = bytes) (hzs : z0.cells.size = 1) (hbb : bytes ≤ 1000)
    (hat : At 1 Zc x A l) (hne : 0 < l.length) (hl : l.length ≤ 1000) (hbs : base ≤ x.heap.size) :
    ∃ v' x', (execOp f o).run P x = .ok (.value v') x' ∧ x'.ownsRow base e 1 v' n (l.map (Value.int .i64)) ∧ Below x.heap.size x x' := by
  subst hn
  obtain ⟨a, rfl⟩ : ∃ a, A = some a := by
    obtain ⟨b', o', h, -⟩ := hat 0 _ (List.getElem?_eq_getElem hne)
    exact ⟨_, h⟩
  have hnews : ∀ j u, (l.map (Value.int .i64))[j]? = some u → x.cell? (a.add j) = some u := fun j u hu => by
    rw [List.getElem?_map] at hu
    obtain ⟨y, hy, rfl⟩ := Option.map_eq_some_iff.1 hu
    obtain ⟨b', o', h, -, hc⟩ := hat j y hy
    cases h
    have := hc 0 _ rfl
    have e : Addr.add ⟨b', o', none⟩ j = ⟨b', o' + j, none⟩ := by unfold Addr.add; split <;> simp_all
    rw [e]
    simpa using this
  have hbt : l.length * bytes ≤ 1000 * 1000 := Nat.mul_le_mul hl hbb
  subst hby
  have hfl : (l.map (Value.int .i64)).length = l.length * i.size := by simp [hsize]
  have hr := run_append_grow (P := P) (w := x) t o.type e i z0 ht hi hz ⟨b, 0, none⟩ 0 0 [] (by simp) (by simp) a l.length c (l.map (Value.int .i64)) hfl hnews (by omega) (by omega) (growslice_fits (by omega) (by rw [Nat.zero_add]; omega))
  simp only [Nat.zero_add] at hr
  have hge := grownCap_ge x l.length 0 e
  have hcm : grownCap x l.length 0 e ≤ maxLen := grownCap_le_maxLen x l.length 0 e (by unfold maxLen; omega)
  have hb' : Below x.heap.size x (x.drew.alloc (.cells (([] : List Value).toArray ++ (l.map (Value.int .i64)).toArray ++ Builtin.zeroCells z0.cells (grownCap x l.length 0 e - l.length)) e)) := ((Below.refl _ x).drew).alloc (by simp) _
  refine ⟨_, _, ?_, ⟨by simp, .inr ⟨x.heap.size, _, _, rfl, hbs, heap_alloc_new x.drew _, hge, hcm, ?_, ?_⟩⟩, hb'⟩
  · unfold execOp
    simp only [ho, resolve, invoke, builtin, Sem.run_bind, Sem.run_pure, Result.andThen_ok, List.map_toArray, List.map_cons, List.map_nil, hs, hy, hr]
  · simp only [Array.size_append, List.size_toArray, size_zeroCells, hzs, List.length_map, List.length_nil, Nat.zero_add, Nat.mul_one]
    omega
  · simp only [Array.toList_append, List.nil_append, Nat.mul_one]
    rw [show l.length = (l.map (Value.int .i64)).length by simp]
    exact List.take_left
/-- 'append' of a row of one to a list of one's own, as an operation. -/
theorem exec_append_row {f : Operand → Value} {o : Oper} {x : World} (s y : Operand) (t e : TypeId) (i : TypeInfo) (z0 v : Value) (bytes base n b : Nat) (xs : List Value) (u : Value) (tb : TypeId)
    (ho : o.op = .call { callee := .builtin .append, args := #[s, y], argTypes := #[t, t] }) (hs : f s = v) (hy : f y = .slice (some ⟨b, 0, none⟩) 1 1)
    (ht : P.underlying t = some (.slice e)) (hi : P.info? e = some i) (hz : i.zero = some z0) (hsize : i.size = 1) (hby : i.bytes = bytes) (hzs : z0.cells.size = 1) (hbb : bytes ≤ 1000)
    (hown : x.ownsRow base e 1 v n xs) (hb : x.heap[b]? = some (.cells #[u] tb (0, 0))) (h1 : u.oneCell' = true) (h63 : n + 1 ≤ 1000) (hbase : base ≤ x.heap.size) :
    ∃ v' x', (execOp f o).run P x = .ok (.value v') x' ∧ x'.ownsRow base e 1 v' (n + 1) (xs ++ [u]) ∧ x.grownBy x' v.ownBlock ∧ (v'.ownBlock = v.ownBlock ∨ v'.ownBlock = some x.heap.size) := by
  have hbt : (n + 1) * bytes ≤ 1000 * 1000 := Nat.mul_le_mul h63 hbb
  obtain ⟨g, cap, x', r1, r2, r3, r4, r5⟩ := run_append_lies (P := P) x t o.type base e i z0 1 bytes ht hi hz hsize hby hzs (by decide) v n xs hown ⟨b, 0, none⟩ 1 1 [u] (by simp) (fun j v' hj => World.news_of_block hb j v' (by simpa using hj)) (by simpa using h1) (by decide) (by unfold maxLen; omega) (by omega) hbase _ rfl
  refine ⟨_, x', ?_, r2, r3, ?_⟩
  · unfold execOp
    simp only [ho, resolve, invoke, builtin, Sem.run_bind, Sem.run_pure, Result.andThen_ok, List.map_toArray, List.map_cons, List.map_nil, hs, hy, r1]
  · rcases r4 with h | h
    · exact .inl h.symm
    · subst h; exact .inr rfl
/-- The list of rows behind it. -/
theorem RowsOwn.row6 {w0 w x : World} {base n : Nat} {v : Value} {A7 A9 : Option Addr} {c7 c9 : Nat} {xs : List IR} {l : List Int} (h : RowsOwn w base v xs) (hb : base ≤ w.heap.size) (hK : KeepC w0 w v x) (h1 : x.ownsRow w.heap.size 3 1 (.slice A9 n c9) n (l.map (Value.int .i64))) (hn : 0 < n)
    (h2 : x.ownsRow base 33 1 (.slice A7 (xs.length + 1) c7) (xs.length + 1) ((xs.map fun x => Value.slice x.A x.l.length x.c) ++ [.slice A9 n c9]))
    (h3 : (Value.slice A7 (xs.length + 1) c7).ownBlock = v.ownBlock ∨ ∃ r, (Value.slice A7 (xs.length + 1) c7).ownBlock = some r ∧ w.heap.size ≤ r ∧ some r ≠ (Value.slice A9 n c9).ownBlock) :
    RowsOwn x base (.slice A7 (xs.length + 1) c7) (xs ++ [⟨A9, c9, l⟩]) := by
  have hln : l.length = n := by have := h1.1; simpa using this
  refine ⟨?_, fun y hy => ?_⟩
  · rw [List.length_append, List.map_append]
    simpa [hln] using h2
  · rcases List.mem_append.1 hy with hy | hy
    · obtain ⟨r1, r2⟩ := h.row y hy
      refine ⟨fun k z hz => ?_, fun a ha => ?_⟩
      · obtain ⟨b, o, hA, hlt, hc⟩ := r1 k z hz
        obtain ⟨q1, q2, q3⟩ := r2 _ hA
        refine ⟨b, o, hA, Nat.lt_of_lt_of_le hlt hK.2.1, fun j u hu => ?_⟩
        rw [← hc j u hu]
        exact World.cell?_of_block (a := ⟨b, o + k * 1 + j, none⟩) (hK.2.2 b hlt q3)
      · obtain ⟨q1, q2, q3⟩ := r2 a ha
        refine ⟨q1, Nat.lt_of_lt_of_le q2 hK.2.1, ?_⟩
        rcases h3 with e | ⟨r, e, hr, -⟩
        · rw [e]; exact q3
        · rw [e]; intro he; cases he; omega
    · rw [List.mem_singleton] at hy
      subst hy
      refine ⟨own_ints (n := n) (c := c9) h1, fun a ha => ?_⟩
      dsimp only at ha
      subst ha
      obtain ⟨p1, p2⟩ := h1.lt a.block rfl
      refine ⟨Nat.le_trans hb p1, p2, ?_⟩
      rcases h3 with e | ⟨r, e, hr, he⟩
      · rw [e]
        intro hh
        have := (h.own.lt _ hh.symm).2
        omega
      · rw [e]; exact fun hh => he hh.symm
end
end Go.Proofs

set_option linter.unusedSimpArgs false
set_option linter.unusedVariables false
namespace Go.Proofs
open Go.RowKit
section
variable {P : Program} {n : Nat}
/-! A drawn region in a round: what holds of it alone holds of it there. -/
theorem wpIn_round_of_wp {l : Nat} {o : Oper} {a : Act} {w : World} {K : Act → World → Prop} {Q : Exit → Act → World → Prop} (hd : ∀ c, o.op ≠ .defer c) (h : o.wp P a w K Q) : o.wpIn (Fence.wide.inRound l) n P a w K Q := by
  unfold Oper.wpIn
  refine ⟨fun _ _ => trivial, ?_⟩
  rw [Oper.semAt_eq _ _ _ hd]
  unfold Oper.wp at h
  generalize (execOp a.eval o).run P w = r at *
  cases r with
  | ok nx w' =>
    cases nx <;> simp only [Oper.upon] at h <;> simp only [Oper.uponIn]
    case value u => exact h
    case skip => exact h
    case defer d => exact h
    case enter f args => exact ⟨fun hh => (by cases hh), (callsIn_wide.2 h).inRound l⟩
    case row r args =>
      refine ⟨fun hh => (by cases hh), fun c cs _ => ?_⟩
      obtain ⟨v, w'', q, s⟩ := h c cs
      exact ⟨v, w'', q, stepsIn_wide.2 s⟩
  | halt x w' => cases x <;> simp only [Oper.upon] at h <;> simp only [Oper.uponIn]; exact h
theorem wpOpIn_round {ops : Array Oper} {l i : Nat} {a : Act} {w : World} {K K' : Act → World → Prop} {Q : Exit → Act → World → Prop} (hd : ∀ o ∈ ops, ∀ c, o.op ≠ .defer c) (hL : ¬ LetsOut Q) (hK : ∀ a w, K a w → K' a w) (h : wpOp P ops Q i K a w) : wpOpIn (Fence.wide.inRound l) n P ops Q i K' a w := by
  have h := wpOp_mono hK h
  unfold wpOp at h
  unfold wpOpIn
  split
  · rename_i ho; simpa only [ho] using h
  · rename_i o ho
    simp only [ho] at h
    split
    · rename_i hw
      rw [if_pos hw] at h
      rcases h with h | h
      · exact wpIn_round_of_wp (hd o (Array.mem_of_getElem? ho)) h
      · exact absurd h.2 hL
    · rename_i hw
      rw [if_neg hw] at h
      exact ⟨fun _ _ => trivial, h⟩
theorem wpAnyIn_round {ops : Array Oper} {md : Region.Mode} {l : Nat} {Q : Exit → Act → World → Prop} (hd : ∀ o ∈ ops, ∀ c, o.op ≠ .defer c) (hL : ¬ LetsOut Q) : ∀ (f : Nat) (listed : Array Bool) (a : Act) (w : World), wpAny P md ops Q f listed a w → wpAnyIn (Fence.wide.inRound l) n P md ops Q f listed a w
  | 0, _, _, _, h => h
  | f + 1, _, _, _, h => ⟨h.1, fun i hi => wpOpIn_round hd hL (fun a' w' h' => wpAnyIn_round hd hL f _ a' w' h') (h.2 i hi)⟩
/-- Straight operations in a round: what holds of them alone holds of them there. -/
theorem wpListIn_round {ops : Array Oper} {l : Nat} {Q : Exit → Act → World → Prop} (hL : ¬ LetsOut Q) : ∀ (os : List Oper) (a : Act) (w : World), os.all (fun o => match o.op with | .defer _ => false | _ => true) = true → wpList P ops Q os a w → wpListIn (Fence.wide.inRound l) n P ops Q os a w
  | [], _, _, _, h => h
  | o :: rest, a, w, hd, h => by
    simp only [List.all_cons, Bool.and_eq_true] at hd
    have hd1 : ∀ c, o.op ≠ .defer c := fun c hc => by rw [hc] at hd; cases hd.1
    unfold wpList at h
    unfold wpListIn
    split
    · rename_i hw
      rw [if_pos hw] at h
      rcases h with h | h
      · exact wpIn_round_of_wp hd1 (Oper.wp_mono (fun a' w' h' => wpListIn_round hL rest a' w' hd.2 h') h)
      · exact absurd h.2 hL
    · rename_i hw
      rw [if_neg hw] at h
      exact ⟨fun _ _ => trivial, wpListIn_round hL rest _ _ hd.2 h⟩
/-- What three stores into three blocks keep. -/
def Keep3 (w0 w : World) (b4 b5 b6 : Nat) (x : World) : Prop := Below w0.heap.size w0 x ∧ w.heap.size ≤ x.heap.size ∧ ∀ k, k < w.heap.size → k ≠ b4 → k ≠ b5 → k ≠ b6 → x.heap[k]? = w.heap[k]?
/-- A drawn region: three stores into three blocks; all else is quiet. -/
theorem any_st3 {Q : Exit → Act → World → Prop} {a0 : Act} {w : World} {l : List Oper} (w0 : World) (p q r : Nat) (b4 b5 b6 : Nat) (y4 z4 y5 z5 y6 z6 : Obj) (af : Act)
    (hB : slotsOk l.toArray = true) (hB' : slotsOk (mixL [p, q, r] (fun _ _ => undef) (fun _ => Gh.zero) 0 l).toArray = true) (hS : Region.noSelect l.toArray = true) (hN : spB l.toArray [p, q, r] = true) (hne : p ≠ q ∧ p ≠ r ∧ q ≠ r)
    (hkd : (match l[p]?, l[q]?, l[r]? with | some o, some o', some o'' => o.dst.isNone && o'.dst.isNone && o''.dst.isNone | _, _, _ => false) = true)
    (hw : Below w0.heap.size w0 w) (hb : w0.heap.size ≤ b4 ∧ w0.heap.size ≤ b5 ∧ w0.heap.size ≤ b6) (hbn : b4 ≠ b5 ∧ b4 ≠ b6 ∧ b5 ≠ b6) (h4 : w.heap[b4]? = some y4) (h5 : w.heap[b5]? = some y5) (h6 : w.heap[b6]? = some y6)
    (hs4 : ∀ o, l[p]? = some o → ∀ x, Keep3 w0 w b4 b5 b6 x → x.heap[b4]? = some y4 → ∃ x', (execOp af.eval o).run P x = .ok .skip x' ∧ OnlyB b4 x x' ∧ x'.heap[b4]? = some z4)
    (hs5 : ∀ o, l[q]? = some o → ∀ x, Keep3 w0 w b4 b5 b6 x → x.heap[b5]? = some y5 → ∃ x', (execOp af.eval o).run P x = .ok .skip x' ∧ OnlyB b5 x x' ∧ x'.heap[b5]? = some z5)
    (hs6 : ∀ o, l[r]? = some o → ∀ x, Keep3 w0 w b4 b5 b6 x → x.heap[b6]? = some y6 → ∃ x', (execOp af.eval o).run P x = .ok .skip x' ∧ OnlyB b6 x x' ∧ x'.heap[b6]? = some z6)
    (hq : ∀ u, Keep3 w0 w b4 b5 b6 u → (∀ (x : Grew u) (b o : Nat), b < u.heap.size → x.val.cell? ⟨b, o, none⟩ = u.cell? ⟨b, o, none⟩) →
      wpQuiet P (mixL [p, q, r] (fun _ _ => undef) (fun _ => Gh.zero) 0 l).toArray (fun w' => ∃ x : Grew u, w' = x.val) (fun a' => a' = af) (mixL [p, q, r] (fun _ _ => undef) (fun _ => Gh.zero) 0 l) a0)
    (hend : ∀ x, Keep3 w0 w b4 b5 b6 x → x.heap[b4]? = some z4 → x.heap[b5]? = some z5 → x.heap[b6]? = some z6 → Q .normal af x) :
    wpAny P .any l.toArray Q l.toArray.size (Array.replicate l.toArray.size false) a0 { w with drawn := w.drawn + 1 } := by
  obtain ⟨n1, n2, n3⟩ := hne
  obtain ⟨e1, e2, e3⟩ := hbn
  have hdst : ∀ j ∈ [p, q, r], ∀ o, l[j]? = some o → o.dst = none := by
    cases h1 : l[p]? with
    | none => rw [h1] at hkd; simp at hkd
    | some o1 =>
      cases h2 : l[q]? with
      | none => rw [h1, h2] at hkd; simp at hkd
      | some o2 =>
        cases h3 : l[r]? with
        | none => rw [h1, h2, h3] at hkd; simp at hkd
        | some o3 =>
          rw [h1, h2, h3] at hkd
          simp only [Bool.and_eq_true, Option.isNone_iff_eq_none] at hkd
          intro j hj o ho
          simp only [List.mem_cons, List.not_mem_nil, or_false] at hj
          rcases hj with rfl | rfl | rfl
          · rw [h1] at ho; cases ho; exact hkd.1.1
          · rw [h2] at ho; cases ho; exact hkd.1.2
          · rw [h3] at ho; cases ho; exact hkd.2
  have hkb : ∀ {x x' : World} {b : Nat}, Keep3 w0 w b4 b5 b6 x → OnlyB b x x' → (b = b4 ∨ b = b5 ∨ b = b6) → Keep3 w0 w b4 b5 b6 x' := fun {x x' b} h ho hb' =>
    ⟨h.1.trans (ho.below _ (by rcases hb' with rfl | rfl | rfl; exact hb.1; exact hb.2.1; exact hb.2.2)), Nat.le_trans h.2.1 (ho.below 0 (Nat.zero_le _)).size, fun k hk k1 k2 k3 => (ho.other k (by rcases hb' with rfl | rfl | rfl <;> assumption)).trans (h.2.2 k hk k1 k2 k3)⟩
  have hkB : ∀ {x x' : World}, Keep3 w0 w b4 b5 b6 x → Below x.heap.size x x' → Keep3 w0 w b4 b5 b6 x' := fun {x x'} h hbx =>
    ⟨via h.1 hbx, Nat.le_trans h.2.1 hbx.size, fun k hk k1 k2 k3 => (hbx.block k (Nat.lt_of_lt_of_le hk h.2.1)).trans (h.2.2 k hk k1 k2 k3)⟩
  have hmx : ∀ g g', mixL [p, q, r] (fun _ _ => undef) g 0 l = mixL [p, q, r] (fun _ _ => undef) g' 0 l := fun g g' => by
    apply List.ext_getElem?
    intro j
    have k1 := mixL_get [p, q, r] (fun _ _ => undef) g l 0 j
    have k2 := mixL_get [p, q, r] (fun _ _ => undef) g' l 0 j
    rw [k1, k2]
  refine any_mixC w0 (Keep3 w0 w b4 b5 b6) [p, q, r] (fun _ _ => undef) (fun L g x => x.heap[b4]? = some (if L p then z4 else y4) ∧ x.heap[b5]? = some (if L q then z5 else y5) ∧ x.heap[b6]? = some (if L r then z6 else y6)) (fun _ => af) hB (fun g => by rw [hmx g (fun _ => Gh.zero)]; exact hB') hS hN
    ⟨hw, Nat.le_refl _, fun _ _ _ _ _ => rfl⟩ (fun x x' h hb => hkB h hb) (fun x h => h.1) ?_ ?_ (fun g u hu hgc _ _ => by rw [hmx g (fun _ => Gh.zero)]; exact hq u hu hgc) (fun _ _ _ _ => rfl) ?_ ?_
  · intro L h
    rw [h p (by simp), h q (by simp), h r (by simp)]
    exact ⟨h4, h5, h6⟩
  · rintro L L' g x x' h ⟨k1, k2, k3⟩ hbx
    rw [h p (by simp), h q (by simp), h r (by simp)]
    exact ⟨bk_keep hbx k1, bk_keep hbx k2, bk_keep hbx k3⟩
  · intro j hj o ho L g x ⟨k1, k2, k3⟩ hC hB0 hL hafter hclo
    have hd := hdst j hj o ho
    simp only [List.mem_cons, List.not_mem_nil, or_false] at hj
    rcases hj with rfl | rfl | rfl
    · rw [hL] at k1
      obtain ⟨x', r1, r2, r3⟩ := hs4 o ho x hC k1
      refine does_skip r1 ⟨hkb hC r2 (.inl rfl), .inl ⟨hd, ?_⟩⟩
      rw [setL_self, setL_ne (Ne.symm n1), setL_ne (Ne.symm n2)]
      exact ⟨r3, r2.keep (Ne.symm e1) k2, r2.keep (Ne.symm e2) k3⟩
    · rw [hL] at k2
      obtain ⟨x', r1, r2, r3⟩ := hs5 o ho x hC k2
      refine does_skip r1 ⟨hkb hC r2 (.inr (.inl rfl)), .inl ⟨hd, ?_⟩⟩
      rw [setL_self, setL_ne n1, setL_ne (Ne.symm n3)]
      exact ⟨r2.keep e1 k1, r3, r2.keep (Ne.symm e3) k3⟩
    · rw [hL] at k3
      obtain ⟨x', r1, r2, r3⟩ := hs6 o ho x hC k3
      refine does_skip r1 ⟨hkb hC r2 (.inr (.inr rfl)), .inl ⟨hd, ?_⟩⟩
      rw [setL_self, setL_ne n2, setL_ne n3]
      exact ⟨r2.keep e2 k1, r2.keep e3 k2, r3⟩
  · rintro g x ⟨k1, k2, k3⟩ hC hB0
    simp only [if_true] at k1 k2 k3
    exact hend x hC k1 k2 k3
end
end Go.Proofs
