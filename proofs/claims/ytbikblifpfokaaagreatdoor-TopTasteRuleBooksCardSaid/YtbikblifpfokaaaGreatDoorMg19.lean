import Derived.Test.YtbikblifpfokaaaGreatDoorMg11
import Derived.Test.YtbikblifpfokaaaGreatDoorMg16
import Derived.Test.YtbikblifpfokaaaGreatDoorMg14
import Derived.Test.YtbikblifpfokaaaGreatDoorMg13
set_option linter.unusedSimpArgs false
set_option linter.unusedVariables false
namespace Go.Proofs
open Go.RowKit

def tl (a : List ByteArray) : List (List UInt8) := a.map fun s => s.toList
theorem tl_step {a b : List ByteArray} {k : Nat} {x y : ByteArray} (ha : a[k]? = some x) (hb : b[k]? = some y) (h : tl (a.take k) = tl (b.take k)) (e : x.toList = y.toList) : tl (a.take (k + 1)) = tl (b.take (k + 1)) := by
  unfold tl at *
  rw [List.take_add_one, List.take_add_one, ha, hb, List.map_append, List.map_append, h]
  simp [e]
set_option maxRecDepth 100000 in
set_option maxHeartbeats 1000000 in
/-- Whether two lists of numbers are the same. -/
theorem texts_any (A B : Option Addr) (a b : List ByteArray) (ca cb : Nat) (w : World) (hl : a.length ≤ 9223372036854775807) (hm : b.length ≤ 9223372036854775807) (hat : At 1 Sc w A a) (hbt : At 1 Sc w B b) :
    Calls Tryz.prog 22 #[.slice A a.length ca, .slice B b.length cb] w fun e w' => e = .returned (.bool (tl a == tl b)) ∧ Below w.heap.size w w' := by
  obtain ⟨R, hR⟩ : ∃ R, (tl a == tl b) = R := ⟨_, rfl⟩
  have hR' := Lib.hid hR
  rw [hR]
  clear hR
  have hat' := Lib.hid hat
  have hbt' := Lib.hid hbt
  clear hat hbt
  by_cases hlen : a.length = b.length
  case neg =>
    have hF : R = false := by
      rw [← hR'.out, beq_eq_false_iff_ne]
      intro e
      have := congrArg List.length e
      unfold tl at this
      rw [List.length_map, List.length_map] at this
      exact hlen this
    subst hF
    have hlI : ((a.length : Int) != (b.length : Int)) = true := by
      rw [bne_iff_ne]; omega
    go_enter Tryz.func22, Tryz.ntmps22
    go_wp2
    go_ret
    exact ⟨rfl, by go_grown⟩
  have hlI : ((a.length : Int) != (b.length : Int)) = false := by
    rw [bne_eq_false_iff_eq]; omega
  go_enter Tryz.func22, Tryz.ntmps22
  go_wp2
  go_loopw [5] (fun i wr => ∃ k : Nat, k ≤ a.length ∧ i = .int .i64 k ∧ Hid (tl (a.take k) = tl (b.take k)) ∧ Below w.heap.size w wr) (fun i _ => a.length - (intOf i).toNat)
  case atStart => exact ⟨0, Nat.zero_le _, rfl, by unfold Hid; simp, by go_grown⟩
  case round =>
    obtain ⟨k, hk, rfl, hno, hbw⟩ := hrel
    by_cases hlt : k < a.length
    · obtain ⟨x, hx⟩ : ∃ x, a[k]? = some x := ⟨_, List.getElem?_eq_getElem hlt⟩
      obtain ⟨y, hy⟩ : ∃ y, b[k]? = some y := ⟨_, List.getElem?_eq_getElem (by omega)⟩
      obtain ⟨p, o, rfl, hbl, hc⟩ := (hat'.out.below hbw) k x hx
      obtain ⟨p', o', rfl, hbl', hc'⟩ := (hbt'.out.below hbw) k y hy
      have c0 := hc 0 _ rfl
      have d0 := hc' 0 _ rfl
      simp only [Nat.add_zero, Nat.mul_one] at c0 d0
      have hkI : (k : Int) < (a.length : Int) := by omega
      have hkJ : (k : Int) < (b.length : Int) := by omega
      have hx' := Lib.hid hx
      have hy' := Lib.hid hy
      clear hc hy hc' hx
      cases hq : (x.toList == y.toList)
      case false =>
        have hF : R = false := by
          rw [← hR'.out, beq_eq_false_iff_ne]
          intro e
          have h1 : (tl a)[k]? = some x.toList := by unfold tl; rw [List.getElem?_map, hx'.out]; rfl
          have h2 : (tl b)[k]? = some y.toList := by unfold tl; rw [List.getElem?_map, hy'.out]; rfl
          rw [e, h2] at h1
          injection h1 with h1
          rw [h1, BEq.rfl] at hq
          cases hq
        subst hF
        go_wp2
        refine region_all wr (by kernel_rfl) (by kernel_rfl) (by go_grown) ?_
        intro hgc hbx
        repeat (go_big_quiet_step (fail))
        refine wpQuiet_nil ?_
        intro w3 hb3 hbw3 hsz3
        clear hgc hbx
        have hbw4 := via hbw hb3
        go_wp2
        go_ret
        exact ⟨rfl, hbw4⟩
      case true =>
        have hgo : Hid (tl (a.take (k + 1)) = tl (b.take (k + 1))) := tl_step hx'.out hy'.out hno.out (by simpa using hq)
        go_wp2
        refine region_all wr (by kernel_rfl) (by kernel_rfl) (by go_grown) ?_
        intro hgc hbx
        repeat (go_big_quiet_step (fail))
        refine wpQuiet_nil ?_
        intro w3 hb3 hbw3 hsz3
        clear hgc hbx
        have hbw4 := via hbw hb3
        go_wp2
        go_roundw
        case rel => exact ⟨k + 1, by omega, by go_num, hgo, hbw4⟩
        case measure => simp [intOf]; omega
    · have hT : R = true := by
        rw [← hR'.out, beq_iff_eq]
        have := hno.out
        rwa [List.take_of_length_le (by omega), List.take_of_length_le (by omega)] at this
      subst hT
      have hlI : ¬ (k : Int) < (a.length : Int) := by omega
      go_wp2
      go_ret
      exact ⟨rfl, hbw⟩
set_option maxRecDepth 100000 in
set_option maxHeartbeats 1000000 in
theorem copyTexts_any (A : Option Addr) (l : List ByteArray) (c : Nat) (w : World) (hl : l.length ≤ 1000) (hat : At 1 Sc w A l) :
    Calls Tryz.prog 30 #[.slice A l.length c] w fun e w' => (∃ v, e = .returned v ∧ w'.ownsRow w.heap.size 9 1 v l.length (l.flatMap Sc)) ∧ Below w.heap.size w w' := by
  obtain ⟨i1, z1, i11, i12, i13, i14, i15⟩ := info_of (t := 9) (n := 1) (b := 16) (by kernel_rfl)
  have hI := Lib.hid fun (x : World) (b base : Nat) (h1 : base ≤ b) (h2 : x.heap[b]? = some (.cells #[] 9 (0, 0))) (h3 : base ≤ x.heap.size) (hat : At 1 Sc x A l) => append_copy_own (P := Tryz.prog) (sz := 1) (cs := Sc) (x := x) (t := 22) (ty := 22) (fun _ => rfl) (by decide) Tryz.underlying22 i11 i12 i13 i14 i15 (by decide) b base h1 h2 h3 c hat hl
  have hat' := Lib.hid (hat.below (new_below w (.cells #[] 9)))
  obtain ⟨v', x', hr, hb, hown⟩ := hI.out (w.alloc (.cells #[] 9)) w.heap.size w.heap.size (Nat.le_refl _) (bk_new _ _ rfl) (by simp) hat'.out
  have hr' := Lib.hid hr
  have hown' := Lib.hid hown
  have hbw := via (new_below _ _) hb
  clear hr hown hI i11 i12 i13 i14 i15 hat
  go_enter Tryz.func30, Tryz.ntmps30
  go_wp2_with (at_builtin; refine wpList_app rfl _ _ 22 rfl rfl rfl hr'.out ?_)
  refine bodyPost_ret (v := v') ?_ rfl ⟨⟨v', rfl, hown'.out⟩, hbw⟩
  simp [results, Tryz.results30, go_sem]
theorem copyTexts_at (A : Option Addr) (l : List ByteArray) (c : Nat) (w : World) (hl : l.length ≤ 1000) (hat : At 1 Sc w A l) :
    Calls Tryz.prog 30 #[.slice A l.length c] w fun e w' => (∃ A' c', e = .returned (.slice A' l.length c') ∧ At 1 Sc w' A' l) ∧ Below w.heap.size w w' := by
  refine (copyTexts_any A l c w hl hat).mono ?_
  rintro e w' ⟨⟨v, rfl, hv⟩, hb⟩
  obtain ⟨A', c', rfl, h⟩ := at_of_owns (cs := Sc) (sz := 1) (fun _ => rfl) hv
  exact ⟨⟨A', c', rfl, h⟩, hb⟩
end Go.Proofs

set_option linter.unusedSimpArgs false
set_option linter.unusedVariables false
namespace Go.Proofs
open Go.RowKit
/-! A list of classes under way: the call owns it and all that its rows point to. -/
structure OutC (base : Nat) (w : World) (v : Value) (xs : List Cl) : Prop where
  own : w.ownsRow base 57 3 v xs.length (xs.flatMap Cl.cs)
  nx : ∀ x ∈ xs, At 1 Ic w x.nA x.nx ∧ ∀ a, x.nA = some a → base ≤ a.block ∧ a.block < w.heap.size ∧ v.ownBlock ≠ some a.block
  rs : ∀ x ∈ xs, At 1 Sc w x.rA x.rs ∧ ∀ a, x.rA = some a → base ≤ a.block ∧ a.block < w.heap.size ∧ v.ownBlock ≠ some a.block
theorem OutC.nil (base : Nat) (w : World) : OutC base w (.slice none 0 0) [] := ⟨World.ownsRow_nil _ _ _ _, (fun x hx => by cases hx), (fun x hx => by cases hx)⟩
theorem OutC.kept {base : Nat} {w w' : World} {v : Value} {xs : List Cl} (h : OutC base w v xs) (hs : w.heap.size ≤ w'.heap.size) (hk : ∀ k, base ≤ k → k < w.heap.size → w'.heap[k]? = w.heap[k]?) : OutC base w' v xs := by
  refine ⟨owns_kept h.own fun g hg => hk g (h.own.lt g hg).1 (h.own.lt g hg).2, fun x hx => ?_, fun x hx => ?_⟩
  · obtain ⟨h1, h2⟩ := h.nx x hx
    exact ⟨h1.kept fun a ha => hk _ (h2 a ha).1 (h2 a ha).2.1, fun a ha => ⟨(h2 a ha).1, Nat.lt_of_lt_of_le (h2 a ha).2.1 hs, (h2 a ha).2.2⟩⟩
  · obtain ⟨h1, h2⟩ := h.rs x hx
    exact ⟨h1.kept fun a ha => hk _ (h2 a ha).1 (h2 a ha).2.1, fun a ha => ⟨(h2 a ha).1, Nat.lt_of_lt_of_le (h2 a ha).2.1 hs, (h2 a ha).2.2⟩⟩
/-- Behind an append of a row. -/
theorem OutC.push {base : Nat} {w w' : World} {v v' : Value} {xs : List Cl} {y : Cl} (h : OutC base w v xs) (ho : w'.ownsRow base 57 3 v' (xs.length + 1) (xs.flatMap Cl.cs ++ y.cs)) (hs : w.heap.size ≤ w'.heap.size)
    (hk : ∀ k, base ≤ k → k < w.heap.size → v.ownBlock ≠ some k → w'.heap[k]? = w.heap[k]?) (hv : v'.ownBlock = v.ownBlock ∨ ∃ r, v'.ownBlock = some r ∧ w.heap.size ≤ r)
    (hy1 : At 1 Ic w' y.nA y.nx) (hy2 : ∀ a, y.nA = some a → base ≤ a.block ∧ a.block < w'.heap.size ∧ v'.ownBlock ≠ some a.block) (hy3 : At 1 Sc w' y.rA y.rs) (hy4 : ∀ a, y.rA = some a → base ≤ a.block ∧ a.block < w'.heap.size ∧ v'.ownBlock ≠ some a.block) : OutC base w' v' (xs ++ [y]) := by
  have hne : ∀ {a : Addr}, a.block < w.heap.size → v.ownBlock ≠ some a.block → v'.ownBlock ≠ some a.block := fun ha hn e => by
    rcases hv with h | ⟨r, h, hr⟩
    · exact hn (h ▸ e)
    · rw [e] at h
      injection h with h
      omega
  refine ⟨by rw [List.length_append, List.flatMap_append]; simpa using ho, fun x hx => ?_, fun x hx => ?_⟩
  · rcases List.mem_append.1 hx with hx | hx
    · obtain ⟨h1, h2⟩ := h.nx x hx
      exact ⟨h1.kept fun a ha => hk _ (h2 a ha).1 (h2 a ha).2.1 (h2 a ha).2.2, fun a ha => ⟨(h2 a ha).1, Nat.lt_of_lt_of_le (h2 a ha).2.1 hs, hne (h2 a ha).2.1 (h2 a ha).2.2⟩⟩
    · rw [List.mem_singleton] at hx
      subst hx
      exact ⟨hy1, hy2⟩
  · rcases List.mem_append.1 hx with hx | hx
    · obtain ⟨h1, h2⟩ := h.rs x hx
      exact ⟨h1.kept fun a ha => hk _ (h2 a ha).1 (h2 a ha).2.1 (h2 a ha).2.2, fun a ha => ⟨(h2 a ha).1, Nat.lt_of_lt_of_le (h2 a ha).2.1 hs, hne (h2 a ha).2.1 (h2 a ha).2.2⟩⟩
    · rw [List.mem_singleton] at hx
      subst hx
      exact ⟨hy3, hy4⟩
theorem OutC.cls {base : Nat} {w : World} {v : Value} {xs : List Cl} (h : OutC base w v xs) : ∃ A c, v = .slice A xs.length c ∧ At 3 Cl.cs w A xs := at_of_owns (cs := Cl.cs) (sz := 3) (fun _ => rfl) h.own
section
variable {P : Program}
def mkCC (r c1 c2 m : Nat) (v : Value) (n1 n2 n : Nat) : Nat → Gh → Value := fun j g => if j = r then v else if j = c1 then .slice g.a1 n1 g.c1 else if j = c2 then .slice g.a1 n2 g.c1 else if j = m then .slice (some ⟨g.b, 0, none⟩) 1 1 else .slice g.a1 (n + 1) g.c1
/-- A drawn region: two calls hand back lists of their own, a row that holds them is appended to a list that lies in a cell of block bB. -/
theorem any_cc {Q : Exit → Act → World → Prop} {a0 : Act} {w : World} {l : List Oper} (w0 : World) (C : World → Prop) (r c1 c2 m q k : Nat) (bB off : Nat) (cs : Array Value) (tB : TypeId) (base : Nat) (e : TypeId) (sz : Nat) (v : Value) (n : Nat) (xs : List Value)
    (n1 n2 : Nat) (e1 e2 : TypeId) (ys1 ys2 : List Value) (z : Gh → Gh → Obj) (row : Gh → Gh → List Value) (af : (Nat → Gh) → Act)
    (hB : slotsOk l.toArray = true) (hB' : ∀ g, slotsOk (mixL [r, c1, c2, m, q, k] (mkCC r c1 c2 m v n1 n2 n) g 0 l).toArray = true) (hS : Region.noSelect l.toArray = true) (hN : spB l.toArray [r, c1, c2, m, q, k] = true)
    (hne : [r, c1, c2, m, q, k].Pairwise (· ≠ ·))
    (hkd : ∀ o, l[k]? = some o → o.dst = none)
    (hd1 : ∀ L : Nat → Bool, (∀ (i : Nat) (o : Oper), l[i]? = some o → L i = true → ∀ e ∈ o.after, Region.binds .any e = true → L e.on = true) → (∀ o, l[m]? = some o → (∀ e ∈ o.after, Region.binds .any e = true → L e.on = true) → L c1 = true ∧ L c2 = true) ∧ (∀ o, l[q]? = some o → (∀ e ∈ o.after, Region.binds .any e = true → L e.on = true) → L r = true ∧ L m = true) ∧ (∀ o, l[k]? = some o → (∀ e ∈ o.after, Region.binds .any e = true → L e.on = true) → L q = true))
    (hC0 : C w) (hCs : ∀ x x', C x → Below x.heap.size x x' → C x') (hCw : ∀ x, C x → Below w0.heap.size w0 x)
    (hCg : ∀ x x' row, C x → x.grownBy x' row → (∀ r, row = some r → v.ownBlock = some r) → C x') (hCt : ∀ x u, C x → C (x.setCell ⟨bB, off, none⟩ u))
    (hbB : bB < base) (hbw : base ≤ w.heap.size) (hCb : ∀ x, C x → w.heap.size ≤ x.heap.size)
    (hblk : w.heap[bB]? = some (.cells cs tB (0, 0))) (hown : w.ownsRow base e sz v n xs)
    (hr : ∀ o, l[r]? = some o → ∀ g x, C x → x.heap[bB]? = some (.cells cs tB (0, 0)) → (execOp (af g).eval o).run P x = .ok (.value v) x)
    (hcl1 : ∀ o, l[c1]? = some o → ∀ (g : Nat → Gh) (x : World), C x → ∃ f args, (execOp (af g).eval o).run P x = .ok (.enter f args) x ∧ Calls P f args x fun e' x' => ∃ A cp, e' = .returned (.slice A n1 cp) ∧ x'.ownsRow x.heap.size e1 1 (.slice A n1 cp) n1 ys1 ∧ Below x.heap.size x x')
    (hcl2 : ∀ o, l[c2]? = some o → ∀ (g : Nat → Gh) (x : World), C x → ∃ f args, (execOp (af g).eval o).run P x = .ok (.enter f args) x ∧ Calls P f args x fun e' x' => ∃ A cp, e' = .returned (.slice A n2 cp) ∧ x'.ownsRow x.heap.size e2 1 (.slice A n2 cp) n2 ys2 ∧ Below x.heap.size x x')
    (hm1 : ∀ o, l[m]? = some o → ∀ (g : Nat → Gh) (x : World), (execOp (af g).eval o).run P x = .ok (.value (.slice (some ⟨x.heap.size, 0, none⟩) 1 1)) (x.alloc (z (g c1) (g c2))))
    (hq1 : ∀ o, l[q]? = some o → ∀ (g : Nat → Gh) (x : World), C x → x.ownsRow base e sz v n xs → x.heap[(g m).b]? = some (z (g c1) (g c2)) → ∃ v' x', (execOp (af g).eval o).run P x = .ok (.value v') x' ∧ x'.ownsRow base e sz v' (n + 1) (xs ++ row (g c1) (g c2)) ∧ ((x.grownBy x' none ∧ v'.ownBlock = some x.heap.size) ∨ (x.grownBy x' v.ownBlock ∧ v'.ownBlock = v.ownBlock)))
    (hk1 : ∀ o, l[k]? = some o → ∀ (g : Nat → Gh) (x : World), x.heap[bB]? = some (.cells cs tB (0, 0)) → (execOp (af g).eval o).run P x = .ok .skip (x.setCell ⟨bB, off, none⟩ (.slice (g q).a1 (n + 1) (g q).c1)))
    (hq : ∀ g u, C u → (∀ (x : Grew u) (b o : Nat), b < u.heap.size → x.val.cell? ⟨b, o, none⟩ = u.cell? ⟨b, o, none⟩) → Hid (∀ x : Grew u, Below w0.heap.size w0 x.val) → Hid (∀ x : Grew u, C x.val) →
      wpQuiet P (mixL [r, c1, c2, m, q, k] (mkCC r c1 c2 m v n1 n2 n) g 0 l).toArray (fun w' => ∃ x : Grew u, w' = x.val) (fun a' => a' = af g) (mixL [r, c1, c2, m, q, k] (mkCC r c1 c2 m v n1 n2 n) g 0 l) a0)
    (hind : ∀ j ∈ [r, c1, c2, m, q, k], ∀ g h, maskL (coneS l.toArray j 0 l []) 0 (af g).tmps.toList = maskL (coneS l.toArray j 0 l []) 0 (af (upd g j h)).tmps.toList)
    (hend : ∀ (g : Nat → Gh) (x : World), C x → x.heap[bB]? = some (.cells (cs.setIfInBounds off (.slice (g q).a1 (n + 1) (g q).c1)) tB (0, 0)) → x.ownsRow base e sz (.slice (g q).a1 (n + 1) (g q).c1) (n + 1) (xs ++ row (g c1) (g c2)) →
      x.ownsRow w.heap.size e1 1 (.slice (g c1).a1 n1 (g c1).c1) n1 ys1 → x.ownsRow w.heap.size e2 1 (.slice (g c2).a1 n2 (g c2).c1) n2 ys2 →
      ((Value.slice (g q).a1 (n + 1) (g q).c1).ownBlock = v.ownBlock ∨ ∃ r, (Value.slice (g q).a1 (n + 1) (g q).c1).ownBlock = some r ∧ w.heap.size ≤ r ∧ some r ≠ (Value.slice (g c1).a1 n1 (g c1).c1).ownBlock ∧ some r ≠ (Value.slice (g c2).a1 n2 (g c2).c1).ownBlock) → Q .normal (af g) x) :
    wpAny P .any l.toArray Q l.toArray.size (Array.replicate l.toArray.size false) a0 { w with drawn := w.drawn + 1 } := by
  simp only [List.pairwise_cons, List.mem_cons, List.not_mem_nil, or_false, forall_eq_or_imp, forall_eq, List.Pairwise.nil, and_true] at hne
  obtain ⟨⟨a1, a2, a3, a4, a5⟩, ⟨b1, b2, b3, b4⟩, ⟨d1, d2, d3⟩, ⟨e1', e2'⟩, f1, -⟩ := hne
  have hvb : ∀ g, v.ownBlock = some g → base ≤ g ∧ g < w.heap.size := fun g hg => hown.lt g hg
  refine any_mixC w0 C [r, c1, c2, m, q, k] (mkCC r c1 c2 m v n1 n2 n) (fun L g x => ((L m = true → L c1 = true ∧ L c2 = true) ∧ (L q = true → L m = true) ∧ (L k = true → L q = true)) ∧
      (L c1 = true → x.ownsRow w.heap.size e1 1 (.slice (g c1).a1 n1 (g c1).c1) n1 ys1) ∧ (L c2 = true → x.ownsRow w.heap.size e2 1 (.slice (g c2).a1 n2 (g c2).c1) n2 ys2) ∧
      (L q = false → L m = true → x.heap[(g m).b]? = some (z (g c1) (g c2))) ∧ (L q = false → x.ownsRow base e sz v n xs) ∧
      (L q = true → x.ownsRow base e sz (.slice (g q).a1 (n + 1) (g q).c1) (n + 1) (xs ++ row (g c1) (g c2)) ∧ ((Value.slice (g q).a1 (n + 1) (g q).c1).ownBlock = v.ownBlock ∨ ∃ r, (Value.slice (g q).a1 (n + 1) (g q).c1).ownBlock = some r ∧ w.heap.size ≤ r ∧ some r ≠ (Value.slice (g c1).a1 n1 (g c1).c1).ownBlock ∧ some r ≠ (Value.slice (g c2).a1 n2 (g c2).c1).ownBlock)) ∧
      (L k = false → x.heap[bB]? = some (.cells cs tB (0, 0))) ∧ (L k = true → x.heap[bB]? = some (.cells (cs.setIfInBounds off (.slice (g q).a1 (n + 1) (g q).c1)) tB (0, 0)))) af hB hB' hS hN hC0 hCs hCw ?_ ?_ hq hind ?_ ?_
  · intro L h
    have l1 := h r (by simp)
    have l2 := h c1 (by simp)
    have l3 := h c2 (by simp)
    have l4 := h m (by simp)
    have l5 := h q (by simp)
    have l6 := h k (by simp)
    rw [l2, l3, l4, l5, l6]
    exact ⟨⟨(fun h => by cases h), (fun h => by cases h), (fun h => by cases h)⟩, (fun h => by cases h), (fun h => by cases h), (fun _ h => by cases h), fun _ => hown, (fun h => by cases h), fun _ => hblk, (fun h => by cases h)⟩
  · rintro L L' g x x' h ⟨j0, j1, j2, j3, j4, j5, j6, j7⟩ hb
    have l1 := h r (by simp)
    have l2 := h c1 (by simp)
    have l3 := h c2 (by simp)
    have l4 := h m (by simp)
    have l5 := h q (by simp)
    have l6 := h k (by simp)
    rw [l2, l3, l4, l5, l6]
    exact ⟨j0, fun h => owns_below (j1 h) hb, fun h => owns_below (j2 h) hb, fun h h' => bk_keep hb (j3 h h'), fun h => owns_below (j4 h) hb, fun h => ⟨owns_below (j5 h).1 hb, (j5 h).2⟩, fun h => bk_keep hb (j6 h), fun h => bk_keep hb (j7 h)⟩
  · intro j hj o ho L g x ⟨⟨k1, k2, k3⟩, j1, j2, j3, j4, j5, j6, j7⟩ hC hb0 hL hafter hclo
    obtain ⟨u1, u2, u3⟩ := hd1 L hclo
    have nq : L q = false → L k = false := fun h => by
      cases hh : L k with
      | false => rfl
      | true => rw [k3 hh] at h; cases h
    have nm : L m = false → L q = false := fun h => by
      cases hh : L q with
      | false => rfl
      | true => rw [k2 hh] at h; cases h
    have nc1 : L c1 = false → L m = false := fun h => by
      cases hh : L m with
      | false => rfl
      | true => rw [(k1 hh).1] at h; cases h
    have nc2 : L c2 = false → L m = false := fun h => by
      cases hh : L m with
      | false => rfl
      | true => rw [(k1 hh).2] at h; cases h
    simp only [List.mem_cons, List.not_mem_nil, or_false] at hj
    rcases hj with rfl | rfl | rfl | rfl | rfl | rfl
    · refine ?_
      by_cases hk : L k = false
      · refine does_value (hr o ho g x hC (j6 hk)) ⟨hC, .inr ⟨Gh.zero, by simp [mkCC], ?_⟩⟩
        rw [setL_ne (Ne.symm a1), setL_ne (Ne.symm a2), setL_ne (Ne.symm a3), setL_ne (Ne.symm a4), setL_ne (Ne.symm a5), upd_ne (Ne.symm a1), upd_ne (Ne.symm a2), upd_ne (Ne.symm a3), upd_ne (Ne.symm a4)]
        exact ⟨⟨k1, k2, k3⟩, j1, j2, j3, j4, j5, j6, j7⟩
      · exfalso
        have hk' : L k = true := by simpa using hk
        have hq' := k3 hk'
        have : ∃ oq, l[q]? = some oq := by
          unfold spB at hN
          have := List.all_eq_true.1 hN q (by simp)
          cases hoq : l.toArray[q]? with
          | none => rw [hoq] at this; cases this
          | some o => exact ⟨o, by simpa using hoq⟩
        obtain ⟨oq, hoq⟩ := this
        have := (u2 oq hoq (fun e he hb => hclo q oq hoq hq' e he hb)).1
        rw [hL] at this
        cases this
    · have lm := nc1 hL
      have lq := nm lm
      have lk := nq lq
      obtain ⟨f, args, r1, r2⟩ := hcl1 o ho g x hC
      refine does_enter r1 (r2.mono ?_)
      rintro e' x' ⟨A, cp, rfl, p1, p2⟩
      refine ⟨_, rfl, hCs _ _ hC p2, .inr ⟨{ Gh.zero with a1 := A, c1 := cp }, by simp [mkCC, Ne.symm a1], ?_⟩⟩
      rw [setL_self, setL_ne (Ne.symm b1), setL_ne (Ne.symm b2), setL_ne (Ne.symm b3), setL_ne (Ne.symm b4), upd_self, upd_ne (Ne.symm b1), upd_ne (Ne.symm b2), upd_ne (Ne.symm b3), lm, lq, lk]
      exact ⟨⟨(fun h => by cases h), (fun h => by cases h), (fun h => by cases h)⟩, fun _ => owns_base p1 (hCb _ hC), fun h => owns_below (j2 h) p2, (fun _ h => by cases h), fun _ => owns_below (j4 lq) p2, (fun h => by cases h), fun _ => bk_keep p2 (j6 lk), (fun h => by cases h)⟩
    · have lm := nc2 hL
      have lq := nm lm
      have lk := nq lq
      obtain ⟨f, args, r1, r2⟩ := hcl2 o ho g x hC
      refine does_enter r1 (r2.mono ?_)
      rintro e' x' ⟨A, cp, rfl, p1, p2⟩
      refine ⟨_, rfl, hCs _ _ hC p2, .inr ⟨{ Gh.zero with a1 := A, c1 := cp }, by simp [mkCC, Ne.symm a2, Ne.symm b1], ?_⟩⟩
      rw [setL_self, setL_ne b1, setL_ne (Ne.symm d1), setL_ne (Ne.symm d2), setL_ne (Ne.symm d3), upd_self, upd_ne b1, upd_ne (Ne.symm d1), upd_ne (Ne.symm d2), lm, lq, lk]
      exact ⟨⟨(fun h => by cases h), (fun h => by cases h), (fun h => by cases h)⟩, fun h => owns_below (j1 h) p2, fun _ => owns_base p1 (hCb _ hC), (fun _ h => by cases h), fun _ => owns_below (j4 lq) p2, (fun h => by cases h), fun _ => bk_keep p2 (j6 lk), (fun h => by cases h)⟩
    · have lq := nm hL
      have lk := nq lq
      have lc := u1 o ho hafter
      refine does_value (hm1 o ho g x) ⟨hCs _ _ hC (new_below _ _), .inr ⟨{ Gh.zero with b := x.heap.size }, by simp [mkCC, Ne.symm a3, Ne.symm b2, Ne.symm d1], ?_⟩⟩
      rw [setL_self, setL_ne b2, setL_ne d1, setL_ne (Ne.symm e1'), setL_ne (Ne.symm e2'), upd_self, upd_ne b2, upd_ne d1, upd_ne (Ne.symm e1'), lq, lk, lc.1, lc.2]
      exact ⟨⟨fun _ => ⟨rfl, rfl⟩, (fun h => by cases h), (fun h => by cases h)⟩, fun _ => owns_below (j1 lc.1) (new_below _ _), fun _ => owns_below (j2 lc.2) (new_below _ _), fun _ _ => bk_new _ _ rfl, fun _ => owns_below (j4 lq) (new_below _ _), (fun h => by cases h), fun _ => bk_keep (new_below _ _) (j6 lk), (fun h => by cases h)⟩
    · have lk := nq hL
      obtain ⟨-, lm⟩ := u2 o ho hafter
      obtain ⟨lc1, lc2⟩ := k1 lm
      have o1 := j1 lc1
      have o2 := j2 lc2
      obtain ⟨v', x', r1, r2, r3⟩ := hq1 o ho g x hC (j4 hL) (j3 hL lm)
      obtain ⟨gB, cap, rfl⟩ : ∃ gB cap, v' = .slice gB (n + 1) cap := own_slice r2
      have hgr : ∃ rw', x.grownBy x' rw' ∧ ∀ r, rw' = some r → v.ownBlock = some r := by
        rcases r3 with ⟨h, -⟩ | ⟨h, -⟩
        · exact ⟨_, h, fun r e => by cases e⟩
        · exact ⟨_, h, fun r e => e⟩
      obtain ⟨rw', hg, hrw⟩ := hgr
      have hk2 : ∀ {e' : TypeId} {nn : Nat} {u : Value} {ys : List Value}, x.ownsRow w.heap.size e' 1 u nn ys → x'.ownsRow w.heap.size e' 1 u nn ys := fun h => owns_kept h fun g hg' => hg.block g (h.lt g hg').2 fun e => by
        have := (hvb g (hrw g e.symm)).2
        have := (h.lt g hg').1
        omega
      refine does_value r1 ⟨hCg _ _ _ hC hg hrw, .inr ⟨{ Gh.zero with a1 := gB, c1 := cap }, by simp [mkCC, Ne.symm a4, Ne.symm b3, Ne.symm d2, Ne.symm e1'], ?_⟩⟩
      rw [setL_self, setL_ne b3, setL_ne d2, setL_ne e1', setL_ne (Ne.symm f1), upd_self, upd_ne b3, upd_ne d2, upd_ne e1', lk, lm, lc1, lc2]
      refine ⟨⟨fun _ => ⟨rfl, rfl⟩, fun _ => rfl, (fun h => by cases h)⟩, fun _ => hk2 o1, fun _ => hk2 o2, (fun h => by cases h), (fun h => by cases h), fun _ => ⟨r2, ?_⟩, fun _ => ?_, (fun h => by cases h)⟩
      · rcases r3 with ⟨-, h⟩ | ⟨-, h⟩
        · refine .inr ⟨_, h, hCb _ hC, fun e => ?_, fun e => ?_⟩
          · have := (o1.lt _ e.symm).2
            omega
          · have := (o2.lt _ e.symm).2
            omega
        · exact .inl h
      · rw [hg.block bB (bk_size (j6 lk)) fun e => by have := (hvb bB (hrw bB e.symm)).1; omega]
        exact j6 lk
    · have lq := u3 o ho hafter
      have lm := k2 lq
      obtain ⟨lc1, lc2⟩ := k1 lm
      obtain ⟨o5, o6⟩ := j5 lq
      have hbl := j6 hL
      have keep : ∀ {bs : Nat} {e' : TypeId} {s' nn : Nat} {u : Value} {ys : List Value}, base ≤ bs → x.ownsRow bs e' s' u nn ys → (x.setCell ⟨bB, off, none⟩ (.slice (g q).a1 (n + 1) (g q).c1)).ownsRow bs e' s' u nn ys := fun hbs h => owns_kept h fun g' hg' => Below.heap_setCell x _ _ g' (by
        have := (h.lt g' hg').1
        dsimp only
        omega)
      refine does_skip (hk1 o ho g x hbl) ⟨hCt _ _ hC, .inl ⟨hkd o ho, ?_⟩⟩
      rw [setL_self, setL_ne b4, setL_ne d3, setL_ne e2', setL_ne f1, lq, lm, lc1, lc2]
      exact ⟨⟨fun _ => ⟨rfl, rfl⟩, fun _ => rfl, fun _ => rfl⟩, fun _ => keep hbw (j1 lc1), fun _ => keep hbw (j2 lc2), (fun h => by cases h), (fun h => by cases h), fun _ => ⟨keep (Nat.le_refl _) o5, o6⟩, (fun h => by cases h), fun _ => bk_here hbl _ rfl⟩
  · rintro g x ⟨-, j1, j2, -, -, j5, -, j7⟩ hC hb0
    exact hend g x hC (j7 rfl) (j5 rfl).1 (j1 rfl) (j2 rfl) (j5 rfl).2
end
end Go.Proofs

set_option linter.unusedSimpArgs false
set_option linter.unusedVariables false
namespace Go.Proofs
open Go.RowKit

/-! The copy of a book. -/
def Cl.key (x : Cl) : ByteArray × List Int × List ByteArray := (x.nm, x.nx, x.rs)
def CopyBk (mk : List ByteArray) (bg : Int) (cl : List Cl) (e : Ending) (w' : World) : Prop :=
  ∃ mA mc cA cc cl', e = .returned (.agg #[.slice mA mk.length mc, .int .i64 bg, .slice cA cl'.length cc]) ∧ BkAt w' mA mk cA cl' ∧ cl'.map Cl.key = cl.map Cl.key ∧ mk.length ≤ mc
set_option maxRecDepth 100000 in
set_option maxHeartbeats 4000000 in
theorem copyBk_any (mA cA : Option Addr) (mk : List ByteArray) (cl : List Cl) (mc cc : Nat) (bg : Int) (w : World) (hR : RightB mk bg cl) (hat : BkAt w mA mk cA cl) :
    Calls Tryz.prog 9 #[.agg #[.slice mA mk.length mc, .int .i64 bg, .slice cA cl.length cc]] w fun e w' => CopyBk mk bg cl e w' ∧ Below w.heap.size w w' := by
  have hM6 := hR.m1
  have hN8 := hR.c1
  have hCm := Lib.hid fun W (hb : Below w.heap.size w W) => copyTexts_any mA mk mc W (by omega) (hat.mks.below hb)
  have hat' := Lib.hid hat
  have hsh' := Lib.hid hR.sh
  obtain ⟨M, hM⟩ : ∃ M, mk.length = M := ⟨_, rfl⟩
  obtain ⟨N, hN⟩ : ∃ N, cl.length = N := ⟨_, rfl⟩
  have hM' := Lib.hid hM
  have hN' := Lib.hid hN
  rw [hM] at hCm hM6 ⊢
  rw [hN] at hN8 ⊢
  clear hR hat hM hN
  go_enter Tryz.func9, Tryz.ntmps9
  go_wp2_with fail
  refine wp_world ?_
  intro W hW_W
  have hb_W : Below w.heap.size w W := by rw [hW_W]; go_grown
  have B0 : W.heap[w.heap.size]? = some (.cells #[.slice mA M mc, .int .i64 bg, .slice cA N cc] 25 (0, 0)) := by rw [hW_W]; (repeat (first | assumption | (refine bk_new _ _ ?_; (simp; done)) | refine bk_drew ?_ | refine bk_alloc ?_ _ | refine bk_set ?_ (by simp <;> omega) _))
  have B1 : W.heap[w.heap.size + 1]? = some (.cells #[.slice none 0 0, .int .i64 0, .slice none 0 0] 25 (0, 0)) := by rw [hW_W]; (repeat (first | assumption | (refine bk_new _ _ ?_; (simp; done)) | refine bk_drew ?_ | refine bk_alloc ?_ _ | refine bk_set ?_ (by simp <;> omega) _))
  have hsW : W.heap.size = w.heap.size + 2 := by rw [hW_W]; simp
  clear hW_W
  apply region_cms w 2 6 7 (fun h => .slice h.a1 M h.c1) (fun h x => x.ownsRow W.heap.size 9 1 (.slice h.a1 M h.c1) M (mk.flatMap Sc)) (fun b h => some b ≠ (Value.slice h.a1 M h.c1).ownBlock) (.cells #[.slice none 0 0, .int .i64 0, .slice none 0 0] 25 (0, 0)) (fun h => .cells #[.slice h.a1 M h.c1, .int .i64 bg, .slice none 0 0] 25 (0, 0))
  case hm => kernel_rfl
  case hB => kernel_rfl
  case hB' => intro g; kernel_rfl
  case hS => kernel_rfl
  case hN => kernel_rfl
  case hne => decide
  case ht => kernel_rfl
  case hw => exact hb_W
  case hPs => exact fun h x x' hp hb => owns_below hp hb
  case hPa => exact fun h x hp e => by have := (hp.lt _ e.symm).2; omega
  case hPo => exact fun h b x x' hp ha ho => owns_kept hp fun g hg => ho.other g (fun e => ha (e ▸ hg.symm))
  case hal => intro o ho; simp at ho; subst ho; intro a x; kernel_rfl
  case hcl =>
    intro o ho g x hx hx0
    simp only [List.getElem?_cons_succ, List.getElem?_cons_zero, Option.some.injEq] at ho
    subst ho
    refine ⟨30, #[.slice mA M mc], by kernel_rfl, (hCm.out x hx0).mono ?_⟩
    rintro e x' ⟨⟨v, rfl, h1⟩, h2⟩
    obtain ⟨A', c', rfl⟩ := own_slice h1
    exact ⟨{ Gh.zero with a1 := A', c1 := c' }, rfl, owns_base h1 hx.size, fun b hb e => by have := (h1.lt b e.symm).1; omega, h2⟩
  case hq =>
    intro g u hu hgc hbx hbX
    have u0 := bk3 (bk_keep hu B0)
    have hus := bk_size (bk_keep hu B0)
    simp only [mixL, mkCM, yieldsC, List.contains_cons, List.contains_nil, Nat.reduceAdd, Nat.reduceBEq, Nat.reduceEqDiff, Nat.zero_add, Bool.or_false, Bool.or_true, Bool.false_or, Bool.true_or, Bool.false_eq_true, if_true, if_false, Bool.or_self]
    repeat (go_big_quiet_step (fail))
    exact wpQuiet_nil rfl
  case hind => intro j hj; simp only [List.mem_cons, List.not_mem_nil, or_false] at hj; rcases hj with rfl | rfl | rfl <;> (intro g h; kernel_rfl)
  case hs1 =>
    intro o ho g x hx hz hp
    simp only [List.getElem?_cons_succ, List.getElem?_cons_zero, Option.some.injEq] at ho
    subst ho
    exact ⟨_, run_store3 rfl rfl rfl rfl (by kernel_rfl) (by kernel_rfl) (by kernel_rfl) hz, (((OnlyB.refl _ _).set _ _).set _ _).set _ _, bk_here (bk_here (bk_here hz _ rfl) _ rfl) _ rfl⟩
  case hend =>
    intro g x hK hx hx0 hP hAp hblk
    obtain ⟨K, hKe⟩ : ∃ K, (g 6).b = K := ⟨_, rfl⟩
    rw [hKe] at hK hAp hblk
    have hB0 := bk_keep hx B0
    have hB1 := bk_keep hx B1
    obtain ⟨MA, hMA⟩ : ∃ A, (g 2).a1 = A := ⟨_, rfl⟩
    obtain ⟨MC, hMC⟩ : ∃ A, (g 2).c1 = A := ⟨_, rfl⟩
    rw [hMA, hMC] at hP hAp hblk
    have hmk : At 1 Sc x MA mk ∧ ∀ a, MA = some a → a.block ≠ K ∧ a.block < x.heap.size ∧ W.heap.size ≤ a.block := by
      have h1 : x.ownsRow W.heap.size 9 1 (.slice MA M MC) mk.length (mk.flatMap Sc) := by rw [hM'.out]; exact hP
      obtain ⟨A', c', e', h2⟩ := at_of_owns (cs := Sc) (sz := 1) (fun _ => rfl) h1
      injection e' with e1 _ _
      rw [← e1] at h2
      refine ⟨h2, fun a ha => ?_⟩
      have h3 := hP.lt a.block (by rw [ha]; rfl)
      exact ⟨fun e => hAp (by rw [ha, ← e]; rfl), h3.2, h3.1⟩
    have hmk' := Lib.hid hmk
    have hMC' : Hid (M ≤ MC) := by
      rcases hP.2 with ⟨h, h2⟩ | ⟨g', cap, cur, h, -, -, h4, -⟩
      · omega
      · cases h
        exact h4
    clear hP hAp hmk hx
    go_wp2_with fail
    have hK2 : w.heap.size + 2 ≤ K := by omega
    have h0 : Hid (OutC (K + 1) x (.slice none 0 0) [] ∧ ([] : List Cl).length = 0 ∧ ([] : List Cl).map Cl.key = (cl.take 0).map Cl.key ∧ At 1 Sc x MA mk ∧ ∀ a, MA = some a → a.block ≠ K ∧ a.block < x.heap.size ∧ (Value.slice none 0 0).ownBlock ≠ some a.block ∧ w.heap.size + 2 ≤ a.block) :=
      ⟨OutC.nil _ _, rfl, rfl, hmk'.out.1, fun a ha => ⟨(hmk'.out.2 a ha).1, (hmk'.out.2 a ha).2.1, (fun h => by cases h), by have := (hmk'.out.2 a ha).2.2; omega⟩⟩
    go_loopw [4] (fun j wr => ∃ (i : Nat) (v : Value) (xs : List Cl), i ≤ N ∧ j = .int .i64 i ∧ Below w.heap.size w wr ∧ (wr.heap[w.heap.size]? = some (.cells #[.slice mA M mc, .int .i64 bg, .slice cA N cc] 25 (0, 0)) ∧ wr.heap[w.heap.size + 1]? = some (.cells #[.slice none 0 0, .int .i64 0, .slice none 0 0] 25 (0, 0))) ∧ wr.heap[K]? = some (.cells #[.slice MA M MC, .int .i64 bg, v] 25 (0, 0)) ∧
        Hid (OutC (K + 1) wr v xs ∧ xs.length = i ∧ xs.map Cl.key = (cl.take i).map Cl.key ∧ At 1 Sc wr MA mk ∧ ∀ a, MA = some a → a.block ≠ K ∧ a.block < wr.heap.size ∧ v.ownBlock ≠ some a.block ∧ w.heap.size + 2 ≤ a.block))
      (fun j _ => N - (intOf j).toNat)
    case atStart => exact ⟨0, _, [], Nat.zero_le _, rfl, hx0, ⟨hB0, hB1⟩, hblk, h0⟩
    case round =>
      clear h0 hblk hB0 hB1 hx0 hmk'
      obtain ⟨i, v, xs, hi, rfl, hbw, ⟨hB0, hB1⟩, hblk, ho⟩ := hrel
      by_cases hlt : i < N
      · obtain ⟨y, hy⟩ : ∃ y, cl[i]? = some y := ⟨_, List.getElem?_eq_getElem (by rw [hN'.out]; exact hlt)⟩
        have hym := List.mem_of_getElem? hy
        obtain ⟨hn1, hn2⟩ := hsh'.out y hym
        rw [hM'.out] at hn1 hn2
        obtain ⟨b, o, rfl, hb, hc⟩ := hat'.out.cls i y hy
        have hatn := Lib.hid (hat'.out.nxs y hym)
        have hatr := Lib.hid (hat'.out.rss y hym)
        have htk : Hid (cl.take (i + 1) = cl.take i ++ [y]) := by
          obtain ⟨hk', he⟩ := List.getElem?_eq_some_iff.1 hy
          unfold Hid
          rw [List.take_succ_eq_append_getElem hk', he]
        obtain ⟨nm, nA, nx, nc, rA, rs, rc⟩ := y
        dsimp only at hn1 hn2 hatn hatr
        have y0 := (gcell hbw b (o + i * 3 + 0) hb).trans (hc 0 _ rfl)
        have y1 := (gcell hbw b (o + i * 3 + 1) hb).trans (hc 1 _ rfl)
        have y2 := (gcell hbw b (o + i * 3 + 2) hb).trans (hc 2 _ rfl)
        dsimp only at y0 y1 y2
        rw [hn1] at y1
        rw [hn2] at y2
        simp only [Nat.add_zero] at y0
        have hbr : b < wr.heap.size := Nat.lt_of_lt_of_le hb hbw.size
        have hiI : (i : Int) < (N : Int) := by omega
        have C0 := bk3 hB0
        have hB0s := bk_size hB0
        have hKs := bk_size hblk
        clear hc hy hym
        go_wp2_with fail
        refine wp_world ?_
        intro wa hW_wa
        have hb_wa : Below w.heap.size w wa := by rw [hW_wa]; go_grown
        have T5 : wa.heap[wr.heap.size]? = some (.cells #[.string nm, .slice nA M nc, .slice rA M rc] 57 (0, 0)) := by rw [hW_wa]; (repeat (first | assumption | (refine bk_new _ _ ?_; (simp; done)) | refine bk_drew ?_ | refine bk_alloc ?_ _ | refine bk_set ?_ (by simp <;> omega) _))
        have hba : Below wr.heap.size wr wa := by rw [hW_wa]; exact new_below _ _
        clear hW_wa
        have hblka := bk_keep hba hblk
        obtain ⟨hoc, hxl, hxk, hmat, hma⟩ := ho.out
        have hoca := hoc.kept hba.size (fun k _ hk => hba.block k hk)
        have hvs : ∀ g, v.ownBlock = some g → K + 1 ≤ g ∧ g < wr.heap.size := fun g hg => hoc.own.lt g hg
        obtain ⟨i57, z57, hi57, hz57, hi57s, hz57s, hi57b⟩ := info_of (t := 57) (n := 3) (b := 64) (by kernel_rfl)
        obtain ⟨Av, cv, hv, hatv⟩ := hoc.cls
        subst hv
        rw [hxl] at hoc hoca hblk hblka hma hvs
        have hw8 : ∀ (x : World), (wa.heap.size ≤ x.heap.size ∧ x.os = wa.os ∧ x.tape = wa.tape ∧ x.output = wa.output ∧ ∀ k, k < wa.heap.size → k ≠ K → (Value.slice Av i cv).ownBlock ≠ some k → x.heap[k]? = wa.heap[k]?) → ∀ k, k < w.heap.size → x.heap[k]? = w.heap[k]? := fun x hC k hk => by
          have := hbw.size
          have := hba.size
          rw [hC.2.2.2.2 k (by omega) (by omega) (fun e => by have := (hvs k e).1; omega)]
          exact (hba.block k (by omega)).trans (hbw.block k hk)
        refine wp_region_any (by kernel_rfl) ?_
        apply any_cc { wa with heap := #[] } (fun x => wa.heap.size ≤ x.heap.size ∧ x.os = wa.os ∧ x.tape = wa.tape ∧ x.output = wa.output ∧ ∀ k, k < wa.heap.size → k ≠ K → (Value.slice Av i cv).ownBlock ≠ some k → x.heap[k]? = wa.heap[k]?) 1 6 9 11 12 14 K 2 #[.slice MA M MC, .int .i64 bg, .slice Av i cv] 25 (K + 1) 57 3 (.slice Av i cv) i (xs.flatMap Cl.cs) M M 3 9 (nx.flatMap Ic) (rs.flatMap Sc) (fun h1 h2 => .cells #[.string nm, .slice h1.a1 M h1.c1, .slice h2.a1 M h2.c1] 57 (0, 0)) (fun h1 h2 => [.string nm, .slice h1.a1 M h1.c1, .slice h2.a1 M h2.c1])
        case hB => kernel_rfl
        case hB' => intro g; kernel_rfl
        case hS => kernel_rfl
        case hN => kernel_rfl
        case hne => decide
        case hkd => intro o ho; simp at ho; subst ho; rfl
        case hd1 =>
          intro L hcl
          refine ⟨fun o ho hL => ?_, fun o ho hL => ?_, fun o ho hL => ?_⟩
          all_goals
            simp only [List.getElem?_cons_succ, List.getElem?_cons_zero, Option.some.injEq] at ho
            subst ho
          · have l10 := hL ⟨10, .data⟩ (by simp) rfl
            exact ⟨hcl 10 _ rfl l10 ⟨6, .data⟩ (by simp) rfl, hcl 10 _ rfl l10 ⟨9, .data⟩ (by simp) rfl⟩
          · exact ⟨hL ⟨1, .data⟩ (by simp) rfl, hL ⟨11, .data⟩ (by simp) rfl⟩
          · exact hL ⟨12, .data⟩ (by simp) rfl
        case hC0 => exact ⟨Nat.le_refl _, rfl, rfl, rfl, fun _ _ _ _ => rfl⟩
        case hCs => exact fun y y' h hb => ⟨Nat.le_trans h.1 hb.size, hb.os.trans h.2.1, hb.tape.trans h.2.2.1, hb.output.trans h.2.2.2.1, fun k hk h1 h2 => (hb.block k (Nat.lt_of_lt_of_le hk h.1)).trans (h.2.2.2.2 k hk h1 h2)⟩
        case hCw => exact fun y h => ⟨h.2.1, h.2.2.1, h.2.2.2.1, Nat.zero_le _, fun r hr => absurd hr (Nat.not_lt_zero _)⟩
        case hCg => exact fun y y' row h hg hr => ⟨Nat.le_trans h.1 hg.size, hg.os.trans h.2.1, hg.tape.trans h.2.2.1, hg.output.trans h.2.2.2.1, fun k hk h1 h2 => (hg.block k (Nat.lt_of_lt_of_le hk h.1) (fun e => h2 (hr k e.symm))).trans (h.2.2.2.2 k hk h1 h2)⟩
        case hCt => exact fun y u h => ⟨by simpa using h.1, h.2.1, h.2.2.1, h.2.2.2.1, fun k hk h1 h2 => (Below.heap_setCell y _ _ k (by dsimp only; exact h1)).trans (h.2.2.2.2 k hk h1 h2)⟩
        case hbB => exact Nat.lt_succ_self _
        case hbw => have := bk_size hblka; omega
        case hCb => exact fun y h => h.1
        case hblk => exact hblka
        case hown => have := hoca.own; rw [hxl] at this; exact this
        case hr =>
          intro o ho g y hC hb
          simp only [List.getElem?_cons_succ, List.getElem?_cons_zero, Option.some.injEq] at ho
          subst ho
          exact run_load_slice rfl (by kernel_rfl) (by kernel_rfl) (bk3 hb).2.2.1
        case hcl1 =>
          intro o ho g y hC
          simp only [List.getElem?_cons_succ, List.getElem?_cons_zero, Option.some.injEq] at ho
          subst ho
          refine ⟨15, #[.slice nA M nc], by kernel_rfl, ?_⟩
          have h1 := copyInts_any nA nx nc y (by omega) (hatn.out.kept fun a ha => hw8 y hC _ (by
            obtain ⟨z, hz⟩ : ∃ z, nx[0]? = some z := ⟨_, List.getElem?_eq_getElem (by omega)⟩
            obtain ⟨b', o', hA, hlt', -⟩ := hatn.out 0 z hz
            rw [ha] at hA
            cases hA
            exact hlt'))
          rw [hn1] at h1
          refine h1.mono ?_
          rintro e y' ⟨⟨v, rfl, h2⟩, h3⟩
          obtain ⟨A', c', rfl⟩ := own_slice h2
          exact ⟨A', c', rfl, h2, h3⟩
        case hcl2 =>
          intro o ho g y hC
          simp only [List.getElem?_cons_succ, List.getElem?_cons_zero, Option.some.injEq] at ho
          subst ho
          refine ⟨30, #[.slice rA M rc], by kernel_rfl, ?_⟩
          have h1 := copyTexts_any rA rs rc y (by omega) (hatr.out.kept fun a ha => hw8 y hC _ (by
            obtain ⟨z, hz⟩ : ∃ z, rs[0]? = some z := ⟨_, List.getElem?_eq_getElem (by omega)⟩
            obtain ⟨b', o', hA, hlt', -⟩ := hatr.out 0 z hz
            rw [ha] at hA
            cases hA
            exact hlt'))
          rw [hn2] at h1
          refine h1.mono ?_
          rintro e y' ⟨⟨v, rfl, h2⟩, h3⟩
          obtain ⟨A', c', rfl⟩ := own_slice h2
          exact ⟨A', c', rfl, h2, h3⟩
        case hm1 =>
          intro o ho g y
          simp only [List.getElem?_cons_succ, List.getElem?_cons_zero, Option.some.injEq] at ho
          subst ho
          kernel_rfl
        case hq1 =>
          intro o ho g y hC hown hz
          simp only [List.getElem?_cons_succ, List.getElem?_cons_zero, Option.some.injEq] at ho
          subst ho
          exact exec_append_at (.tmp 25) (.tmp 35) 23 57 i57 z57 _ 3 64 (K + 1) i _ _ _ 57 rfl (by kernel_rfl) (by kernel_rfl) Tryz.underlying23 hi57 hz57 hi57s hi57b hz57s (by decide) hown hz rfl (by intro u hu; simp at hu; rcases hu with rfl | rfl | rfl <;> rfl) (by unfold maxLen; omega) (by omega) (by have := hC.1; have := bk_size hblka; omega)
        case hk1 =>
          intro o ho g y hb
          simp only [List.getElem?_cons_succ, List.getElem?_cons_zero, Option.some.injEq] at ho
          subst ho
          have C2 := bk3 hb
          exact run_store_slice rfl (by kernel_rfl) (by kernel_rfl) (by kernel_rfl) C2.2.2.1 (bk_free hb 2)
        case hq =>
          intro g y hC hgc hbx hbX
          have T7 : y.heap[wr.heap.size]? = some (.cells #[.string nm, .slice nA M nc, .slice rA M rc] 57 (0, 0)) := by
            rw [hC.2.2.2.2 _ (bk_size T5) (by omega) (fun e => by have := (hvs _ e).2; omega)]
            exact T5
          have y7 := bk3 T7
          have hy7 := bk_size T7
          simp only [mixL, mkCC, yieldsC, List.contains_cons, List.contains_nil, Nat.reduceAdd, Nat.reduceBEq, Nat.reduceEqDiff, Nat.zero_add, Bool.or_false, Bool.or_true, Bool.false_or, Bool.true_or, Bool.false_eq_true, if_true, if_false, Bool.or_self]
          repeat (go_big_quiet_step (fail))
          exact wpQuiet_nil rfl
        case hind => intro j hj; simp only [List.mem_cons, List.not_mem_nil, or_false] at hj; rcases hj with rfl | rfl | rfl | rfl | rfl | rfl <;> (intro g h; kernel_rfl)
        case hend =>
          intro g y hC hblk2 hown2 ho1 ho2 hor
          go_wp2_with fail
          go_roundw
          case rel =>
            have hks : ∀ {k : Nat} {ob : Obj}, k < w.heap.size + 2 → wr.heap[k]? = some ob → y.heap[k]? = some ob := fun {k ob} hk h => by
              have h1 := bk_keep hba h
              rw [hC.2.2.2.2 k (bk_size h1) (by omega) (fun e => by have := (hvs k e).1; omega)]
              exact h1
            have hat1 : At 1 Ic y (g 6).a1 nx := by
              have h1 : y.ownsRow wa.heap.size 3 1 (.slice (g 6).a1 M (g 6).c1) nx.length (nx.flatMap Ic) := by rw [hn1]; exact ho1
              obtain ⟨A', c', e', h2⟩ := at_of_owns (cs := Ic) (sz := 1) (fun _ => rfl) h1
              injection e' with e1 _ _
              rw [← e1] at h2
              exact h2
            have hat2 : At 1 Sc y (g 9).a1 rs := by
              have h1 : y.ownsRow wa.heap.size 9 1 (.slice (g 9).a1 M (g 9).c1) rs.length (rs.flatMap Sc) := by rw [hn2]; exact ho2
              obtain ⟨A', c', e', h2⟩ := at_of_owns (cs := Sc) (sz := 1) (fun _ => rfl) h1
              injection e' with e1 _ _
              rw [← e1] at h2
              exact h2
            have hKa := bk_size hblka
            have hvv : (Value.slice (g 12).a1 (i + 1) (g 12).c1).ownBlock = (Value.slice Av i cv).ownBlock ∨ ∃ r, (Value.slice (g 12).a1 (i + 1) (g 12).c1).ownBlock = some r ∧ wa.heap.size ≤ r := by
              rcases hor with h | ⟨r, h, hr, -⟩
              · exact .inl h
              · exact .inr ⟨r, h, hr⟩
            have hne1 : ∀ a, (g 6).a1 = some a → K + 1 ≤ a.block ∧ a.block < y.heap.size ∧ (Value.slice (g 12).a1 (i + 1) (g 12).c1).ownBlock ≠ some a.block := fun a ha => by
              have h1 := ho1.lt a.block (by rw [ha]; rfl)
              refine ⟨by omega, h1.2, fun e => ?_⟩
              rcases hor with h | ⟨r, h, hr, h3, -⟩
              · have := (hvs a.block (h ▸ e)).2
                have := hba.size
                omega
              · rw [e] at h
                injection h with h
                exact h3 (by rw [← h, ha]; rfl)
            have hne2 : ∀ a, (g 9).a1 = some a → K + 1 ≤ a.block ∧ a.block < y.heap.size ∧ (Value.slice (g 12).a1 (i + 1) (g 12).c1).ownBlock ≠ some a.block := fun a ha => by
              have h1 := ho2.lt a.block (by rw [ha]; rfl)
              refine ⟨by omega, h1.2, fun e => ?_⟩
              rcases hor with h | ⟨r, h, hr, -, h3⟩
              · have := (hvs a.block (h ▸ e)).2
                have := hba.size
                omega
              · rw [e] at h
                injection h with h
                exact h3 (by rw [← h, ha]; rfl)
            have hpush := hoca.push (y := ⟨nm, (g 6).a1, nx, (g 6).c1, (g 9).a1, rs, (g 9).c1⟩) (w' := y) (v' := .slice (g 12).a1 (i + 1) (g 12).c1) (by
              rw [hxl]
              unfold Cl.cs
              dsimp only
              rw [hn1, hn2]
              exact hown2) hC.1 (fun k hk hk2 hk3 => hC.2.2.2.2 k hk2 (by omega) hk3) hvv hat1 hne1 hat2 hne2
            refine ⟨i + 1, _, _, by omega, by go_num, ⟨hC.2.1.trans hb_wa.os, hC.2.2.1.trans hb_wa.tape, hC.2.2.2.1.trans hb_wa.output, Nat.le_trans hb_wa.size hC.1, hw8 y hC⟩, ⟨hks (by omega) hB0, hks (by omega) hB1⟩, hblk2, hpush, by rw [List.length_append, hxl]; rfl, ?_, ?_, ?_⟩
            · rw [htk.out, List.map_append, List.map_append, hxk]
              rfl
            · refine hmat.kept fun a ha => ?_
              have h1 := hma a ha
              rw [hC.2.2.2.2 a.block (Nat.lt_of_lt_of_le h1.2.1 hba.size) h1.1 h1.2.2.1]
              exact hba.block _ h1.2.1
            · intro a ha
              have h1 := hma a ha
              refine ⟨h1.1, by have := hba.size; have := hC.1; omega, fun e => ?_, h1.2.2.2⟩
              rcases hvv with h | ⟨r, h, hr⟩
              · exact h1.2.2.1 (h ▸ e)
              · rw [e] at h
                injection h with h
                have := hba.size
                omega
          case measure => simp [intOf]; omega
      · have hiN : i = N := by omega
        subst hiN
        obtain ⟨hoc, hxl, hxk, hmat, hma⟩ := ho.out
        obtain ⟨Av, cv, rfl, hatv⟩ := hoc.cls
        have C0 := bk3 hB0
        have C1 := bk3 hblk
        have C2 := bk3 hB1
        have hB0s := bk_size hB0
        have hKs := bk_size hblk
        have ho' := Lib.hid ho.out
        rw [hxl] at C1 hblk
        clear ho hoc hxk hmat hma hatv
        go_wp2_with fail
        obtain ⟨hoc, hxl2, hxk, hmat, hma⟩ := ho'.out
        have hR1 := bk_here (bk_here (bk_here hB1 (.slice MA M MC) rfl (o := 0)) (.int .i64 bg) rfl (o := 1)) (.slice Av i cv) rfl (o := 2)
        have hkk : ∀ k, k ≠ w.heap.size + 1 → (((wr.setCell ⟨w.heap.size + 1, 0, none⟩ (.slice MA M MC)).setCell ⟨w.heap.size + 1, 1, none⟩ (.int .i64 bg)).setCell ⟨w.heap.size + 1, 2, none⟩ (.slice Av i cv)).heap[k]? = wr.heap[k]? := fun k hk => (Below.heap_setCell _ _ _ _ (by dsimp only; exact hk)).trans ((Below.heap_setCell _ _ _ _ (by dsimp only; exact hk)).trans (Below.heap_setCell _ _ _ _ (by dsimp only; exact hk)))
        have hoc2 := hoc.kept (w' := ((wr.setCell ⟨w.heap.size + 1, 0, none⟩ (.slice MA M MC)).setCell ⟨w.heap.size + 1, 1, none⟩ (.int .i64 bg)).setCell ⟨w.heap.size + 1, 2, none⟩ (.slice Av i cv)) (by simp) (fun k hk _ => hkk k (by omega))
        obtain ⟨A', c', e', hcls⟩ := hoc2.cls
        injection e' with e1 _ _
        rw [← e1] at hcls
        refine bodyPost_ret (v := .agg #[.slice MA M MC, .int .i64 bg, .slice Av i cv]) ?_ rfl ⟨⟨MA, MC, Av, cv, xs, by rw [hxl2, hM'.out], ⟨hmat.kept fun a ha => hkk _ (by have := (hma a ha).2.2.2; omega), hcls, fun x hx => (hoc2.nx x hx).1, fun x hx => (hoc2.rs x hx).1⟩, ?_, by rw [hM'.out]; exact hMC'.out⟩, by go_grown⟩
        · have R3 := bk3 hR1
          generalize ((wr.setCell ⟨w.heap.size + 1, 0, none⟩ (.slice MA M MC)).setCell ⟨w.heap.size + 1, 1, none⟩ (.int .i64 bg)).setCell ⟨w.heap.size + 1, 2, none⟩ (.slice Av i cv) = w9 at *
          simp [results, Tryz.results9, go_sem, R3]
        · rw [hxk, List.take_of_length_le (by rw [hN'.out]; exact Nat.le_refl _)]
end Go.Proofs
