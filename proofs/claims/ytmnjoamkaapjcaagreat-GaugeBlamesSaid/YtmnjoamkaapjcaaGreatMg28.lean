import Derived.Test.YtmnjoamkaapjcaaGreatMg27
import Derived.Test.YtmnjoamkaapjcaaGreatMg9
import Derived.Test.YtmnjoamkaapjcaaGreatMg23
import Derived.Test.YtmnjoamkaapjcaaGreatMg7
import Derived.Test.YtmnjoamkaapjcaaGreatMg3
set_option linter.unusedSimpArgs false
set_option linter.unusedVariables false
namespace Go.Proofs
open Go.RowKit
section
variable {P : Program}
theorem owns_base {w : World} {base base' : Nat} {e : TypeId} {size n : Nat} {v : Value} {xs : List Value} (h : w.ownsRow base' e size v n xs) (hb : base ≤ base') : w.ownsRow base e size v n xs := by
  refine ⟨h.1, ?_⟩
  rcases h.2 with h | ⟨g, cap, cur, h1, h2, h3⟩
  · exact .inl h
  · exact .inr ⟨g, cap, cur, h1, Nat.le_trans hb h2, h3⟩
/-- A drawn region in a call that began in 'w0': a call 'c' hands back a list of its own, 'm' makes a row, 'q' appends it, a call 'k' takes the new list; all else is quiet. -/
def mkCapk (c m q : Nat) (n : Nat) (mkk : Gh → Value) : Nat → Gh → Value := fun j g => if j = c then .slice g.a1 n g.c1 else if j = m then .slice (some ⟨g.b, 0, none⟩) 1 1 else if j = q then .slice g.a1 (n + 1) g.c1 else mkk g
theorem region_capk {id : Nat} {Q : Exit → Act → World → Prop} {a0 : Act} {w : World} {l : List Oper} (w0 : World) (c m q k : Nat) (n : Nat) (e : TypeId) (sz : Nat) (xs ys : List Value) (z : Obj) (mkk : Gh → Value) (Pk : Gh → World → Prop) (af : (Nat → Gh) → Act) (hm : P.follows .mixedOrders = true)
    (hB : slotsOk l.toArray = true) (hB' : ∀ g, slotsOk (mixL [c, m, q, k] (mkCapk c m q n mkk) g 0 l).toArray = true) (hS : Region.noSelect l.toArray = true) (hN : spB l.toArray [c, m, q, k] = true)
    (hne : c ≠ m ∧ c ≠ q ∧ c ≠ k ∧ m ≠ q ∧ m ≠ k ∧ q ≠ k)
    (hd1 : (match l[q]? with | some o => o.after.any (fun e => Region.binds .any e && e.on == c) && o.after.any (fun e => Region.binds .any e && e.on == m) | none => false) = true)
    (hd2 : (match l[k]? with | some o => o.after.any (fun e => Region.binds .any e && e.on == q) | none => false) = true)
    (hw : Below w0.heap.size w0 w)
    (hPs : ∀ h x x', Pk h x → Below x.heap.size x x' → Pk h x')
    (hcl : ∀ o, l[c]? = some o → ∀ (g : Nat → Gh) (x : World), Below w.heap.size w x → Below w0.heap.size w0 x → ∃ f args, (execOp (af g).eval o).run P x = .ok (.enter f args) x ∧ Calls P f args x fun e' x' => ∃ A cp, e' = .returned (.slice A n cp) ∧ x'.ownsRow w.heap.size e sz (.slice A n cp) n xs ∧ Below x.heap.size x x')
    (hal : ∀ o, l[m]? = some o → ∀ (g : Nat → Gh) (x : World), (execOp (af g).eval o).run P x = .ok (.value (.slice (some ⟨x.heap.size, 0, none⟩) 1 1)) (x.alloc z))
    (hap : ∀ o, l[q]? = some o → ∀ (g : Nat → Gh) (x : World), Below w.heap.size w x → x.ownsRow w.heap.size e sz (.slice (g c).a1 n (g c).c1) n xs → x.heap[(g m).b]? = some z → ∃ v' x', (execOp (af g).eval o).run P x = .ok (.value v') x' ∧ x'.ownsRow w.heap.size e sz v' (n + 1) (xs ++ ys) ∧ x.grownBy x' (Value.slice (g c).a1 n (g c).c1).ownBlock)
    (hkk : ∀ o, l[k]? = some o → ∀ (g : Nat → Gh) (x : World), Below w.heap.size w x → Below w0.heap.size w0 x → x.ownsRow w.heap.size e sz (.slice (g q).a1 (n + 1) (g q).c1) (n + 1) (xs ++ ys) → ∃ f args, (execOp (af g).eval o).run P x = .ok (.enter f args) x ∧ Calls P f args x fun e' x' => ∃ h, e' = .returned (mkk h) ∧ Pk h x' ∧ Below x.heap.size x x')
    (hq : ∀ g u, Below w.heap.size w u → (∀ (x : Grew u) (b o : Nat), b < u.heap.size → x.val.cell? ⟨b, o, none⟩ = u.cell? ⟨b, o, none⟩) → Hid (∀ x : Grew u, Below w0.heap.size w0 x.val) → Hid (∀ x : Grew u, Below w.heap.size w x.val) →
      wpQuiet P (mixL [c, m, q, k] (mkCapk c m q n mkk) g 0 l).toArray (fun w' => ∃ x : Grew u, w' = x.val) (fun a' => a' = af g) (mixL [c, m, q, k] (mkCapk c m q n mkk) g 0 l) a0)
    (hind : ∀ j ∈ [c, m, q, k], ∀ g h, maskL (coneS l.toArray j 0 l []) 0 (af g).tmps.toList = maskL (coneS l.toArray j 0 l []) 0 (af (upd g j h)).tmps.toList)
    (hend : ∀ (g : Nat → Gh) (x : World), Below w.heap.size w x → Below w0.heap.size w0 x → Pk (g k) x → Q .normal (af g) x) :
    (Code.region id l.toArray true).wp P Q a0 w := by
  obtain ⟨n1, n2, n3, n4, n5, n6⟩ := hne
  have afterQ : ∀ {L : Nat → Bool} {o : Oper}, l[q]? = some o → (∀ e ∈ o.after, Region.binds .any e = true → L e.on = true) → L c = true ∧ L m = true := by
    intro L o ho haft
    rw [ho] at hd1
    simp only [Bool.and_eq_true] at hd1
    obtain ⟨e, he, hb⟩ := Array.any_eq_true'.1 hd1.1
    obtain ⟨e2, he2, hb2⟩ := Array.any_eq_true'.1 hd1.2
    simp only [Bool.and_eq_true, beq_iff_eq] at hb hb2
    have h1 := haft e he hb.1
    have h2 := haft e2 he2 hb2.1
    rw [hb.2] at h1
    rw [hb2.2] at h2
    exact ⟨h1, h2⟩
  have afterK : ∀ {L : Nat → Bool} {o : Oper}, l[k]? = some o → (∀ e ∈ o.after, Region.binds .any e = true → L e.on = true) → L q = true := by
    intro L o ho haft
    rw [ho] at hd2
    dsimp only at hd2
    obtain ⟨e, he, hb⟩ := Array.any_eq_true'.1 hd2
    simp only [Bool.and_eq_true, beq_iff_eq] at hb
    have h1 := haft e he hb.1
    rw [hb.2] at h1
    exact h1
  refine region_mix w0 [c, m, q, k] (mkCapk c m q n mkk) (fun L g x => (L q = true → L c = true ∧ L m = true) ∧ (L k = true → L q = true) ∧ (L q = false → L c = true → x.ownsRow w.heap.size e sz (.slice (g c).a1 n (g c).c1) n xs) ∧
      (L q = false → L m = true → x.heap[(g m).b]? = some z) ∧ (L k = false → L q = true → x.ownsRow w.heap.size e sz (.slice (g q).a1 (n + 1) (g q).c1) (n + 1) (xs ++ ys)) ∧ (L k = true → Pk (g k) x)) af hm hB hB' hS hN hw ?_ ?_ hq hind ?_ ?_
  · intro L h
    have a1 := h c (by simp)
    have a2 := h m (by simp)
    have a3 := h q (by simp)
    have a4 := h k (by simp)
    exact ⟨fun h => (by rw [a3] at h; cases h), fun h => (by rw [a4] at h; cases h), fun _ h => (by rw [a1] at h; cases h), fun _ h => (by rw [a2] at h; cases h), fun _ h => (by rw [a3] at h; cases h), fun h => (by rw [a4] at h; cases h)⟩
  · rintro L L' g x x' h ⟨j1, j2, j3, j4, j5, j6⟩ hb
    have a1 := h c (by simp)
    have a2 := h m (by simp)
    have a3 := h q (by simp)
    have a4 := h k (by simp)
    rw [a1, a2, a3, a4]
    exact ⟨j1, j2, fun h h' => owns_below (j3 h h') hb, fun h h' => bk_keep hb (j4 h h'), fun h h' => owns_below (j5 h h') hb, fun h => hPs _ _ _ (j6 h) hb⟩
  · intro j hj o ho L g x ⟨j1, j2, j3, j4, j5, j6⟩ hbx hb0 hL hafter
    simp only [List.mem_cons, List.not_mem_nil, or_false] at hj
    have notk : L q = false → L k = false := fun h => by
      cases hk : L k with
      | false => rfl
      | true => rw [j2 hk] at h; cases h
    rcases hj with rfl | rfl | rfl | rfl
    · have lq : L q = false := by
        cases hq0 : L q with
        | false => rfl
        | true => rw [(j1 hq0).1] at hL; cases hL
      have lk := notk lq
      obtain ⟨f, args, r1, r2⟩ := hcl o ho g x hbx hb0
      refine does_enter r1 (r2.mono ?_)
      rintro e' x' ⟨A, cp, rfl, p1, p2⟩
      refine ⟨_, rfl, via hbx p2, .inr ⟨{ Gh.zero with a1 := A, c1 := cp }, by simp [mkCapk], ?_⟩⟩
      rw [setL_self, setL_ne (Ne.symm n1), setL_ne (Ne.symm n2), setL_ne (Ne.symm n3), upd_self, upd_ne (Ne.symm n1), upd_ne (Ne.symm n2), upd_ne (Ne.symm n3), lq, lk]
      rw [lq] at j4
      exact ⟨(fun h => by cases h), (fun h => by cases h), fun _ _ => p1, fun h h' => bk_keep p2 (j4 h h'), (fun _ h => by cases h), (fun h => by cases h)⟩
    · have lq : L q = false := by
        cases hq0 : L q with
        | false => rfl
        | true => rw [(j1 hq0).2] at hL; cases hL
      have lk := notk lq
      refine does_value (hal o ho g x) ⟨via_alloc hbx _, .inr ⟨{ Gh.zero with b := x.heap.size }, by simp [mkCapk, Ne.symm n1], ?_⟩⟩
      rw [setL_self, setL_ne n1, setL_ne (Ne.symm n4), setL_ne (Ne.symm n5), upd_self, upd_ne n1, upd_ne (Ne.symm n4), upd_ne (Ne.symm n5), lq, lk]
      rw [lq] at j3
      exact ⟨(fun h => by cases h), (fun h => by cases h), fun h h' => (j3 h h').alloc _, fun _ _ => bk_new _ _ rfl, (fun _ h => by cases h), (fun h => by cases h)⟩
    · obtain ⟨lc, lm⟩ := afterQ ho hafter
      have lk := notk hL
      obtain ⟨v', x', r1, r2, r3⟩ := hap o ho g x hbx (j3 hL lc) (j4 hL lm)
      obtain ⟨gB, cap, rfl⟩ : ∃ gB cap, v' = .slice (some ⟨gB, 0, none⟩) (n + 1) cap := by
        obtain ⟨gB, cap, h, _⟩ := r2.form (by omega)
        exact ⟨gB, cap, h⟩
      have hbx' : Below w.heap.size w x' := hbx.grown r3 hbx.size (fun r e => ((j3 hL lc).lt r e).1)
      refine does_value r1 ⟨hbx', .inr ⟨{ Gh.zero with a1 := some ⟨gB, 0, none⟩, c1 := cap }, by simp [mkCapk, Ne.symm n2, Ne.symm n4], ?_⟩⟩
      rw [setL_self, setL_ne n2, setL_ne n4, setL_ne (Ne.symm n6), upd_self, lk]
      exact ⟨fun _ => ⟨lc, lm⟩, (fun h => by cases h), (fun h => by cases h), (fun h => by cases h), fun _ _ => r2, (fun h => by cases h)⟩
    · have lq := afterK ho hafter
      obtain ⟨f, args, r1, r2⟩ := hkk o ho g x hbx hb0 (j5 hL lq)
      refine does_enter r1 (r2.mono ?_)
      rintro e' x' ⟨h, rfl, p1, p2⟩
      refine ⟨_, rfl, via hbx p2, .inr ⟨h, by simp [mkCapk, Ne.symm n3, Ne.symm n5, Ne.symm n6], ?_⟩⟩
      rw [setL_self, setL_ne n3, setL_ne n5, setL_ne n6, upd_self, lq]
      obtain ⟨lc, lm⟩ := j1 lq
      exact ⟨fun _ => ⟨lc, lm⟩, fun _ => rfl, (fun h => by cases h), (fun h => by cases h), (fun h => by cases h), fun _ => p1⟩
  · intro g x ⟨j1, j2, j3, j4, j5, j6⟩ hbx hb0
    exact hend g x hbx hb0 (j6 rfl)
end
/-! The reference's lists that cover. -/
def coverV (P : List (Nat × Nat)) (l ch : List Int) (s : Nat) : Option (List Int) := ((combos l s).map (ch ++ ·)).find? (cov P)
theorem combos_short {α : Type} : ∀ (l : List α) (s : Nat), l.length < s → combos l s = []
  | _, 0, h => by omega
  | [], s + 1, _ => rfl
  | x :: l, s + 1, h => by
    have h' : l.length < s := by simpa using h
    unfold combos
    rw [combos_short l s h', combos_short l (s + 1) (by omega)]
    rfl
theorem cover_zero (P : List (Nat × Nat)) (l ch : List Int) : coverV P l ch 0 = if cov P ch then some ch else none := by
  unfold coverV
  have : combos l 0 = [[]] := by cases l <;> rfl
  rw [this]
  simp only [List.map_cons, List.map_nil, List.append_nil, List.find?_cons, List.find?_nil]
  cases cov P ch <;> rfl
theorem cover_cons (P : List (Nat × Nat)) (x : Int) (l ch : List Int) (s : Nat) : coverV P (x :: l) ch (s + 1) = (coverV P l (ch ++ [x]) s).or (coverV P l ch (s + 1)) := by
  unfold coverV
  rw [combos, List.map_append, List.find?_append, List.map_map]
  congr 2
  · apply List.map_congr_left
    intro y _
    simp
theorem cover_short {P : List (Nat × Nat)} {l ch : List Int} {s : Nat} (h : l.length < s) : coverV P l ch s = none := by
  unfold coverV
  rw [combos_short l s h]
  rfl
end Go.Proofs

set_option linter.unusedSimpArgs false
set_option linter.unusedVariables false
namespace Go.Proofs
open Go.RowKit

def CovGot (o : Option (List Int)) (e : Ending) (w' : World) : Prop :=
  match o with
  | none => e = .returned (.tuple #[.slice none 0 0, .bool false])
  | some r => ∃ A c, e = .returned (.tuple #[.slice A r.length c, .bool true]) ∧ At 1 Ic w' A r
theorem cov_take {P : List (Nat × Nat)} {ch : List Int} {k : Nat} {p : Nat × Nat} (h : P[k]? = some p) (h0 : cov (P.take k) ch = true) : cov (P.take (k + 1)) ch = (ch.contains (p.1 : Int) || ch.contains (p.2 : Int)) := by
  unfold cov at h0 ⊢
  rw [List.take_add_one, h, List.all_append, h0]
  simp
theorem cov_bad {P : List (Nat × Nat)} {ch : List Int} {k : Nat} (h : cov (P.take k) ch = false) : cov P ch = false := by
  unfold cov at h ⊢
  rw [List.all_eq_false] at h ⊢
  obtain ⟨p, hp, h⟩ := h
  exact ⟨p, List.mem_of_mem_take hp, h⟩
set_option maxRecDepth 100000 in
set_option maxHeartbeats 4000000 in
theorem cover0_any (P : List (Nat × Nat)) (A3 Al B : Option Addr) (l ch : List Int) (cp cl cb : Nat) (w : World) (hm : P.length ≤ 1000) (hc : ch.length ≤ 1000) (hat3 : At 2 Pc w A3 P) (hatc : At 1 Ic w B ch) :
    Calls Tryz.prog 39 #[.slice A3 P.length cp, .slice Al l.length cl, .slice B ch.length cb, .int .i64 0] w fun e w' => CovGot (coverV P l ch 0) e w' ∧ Below w.heap.size w w' := by
  rw [cover_zero]
  have hH := Lib.hid fun x W (hb : Below w.heap.size w W) => has_any B ch cb x W (by omega) (hatc.below hb)
  have hat' := Lib.hid hat3
  have hatc' := Lib.hid hatc
  obtain ⟨m, hm0⟩ : ∃ m, P.length = m := ⟨_, rfl⟩
  have hm' := Lib.hid hm0
  rw [hm0] at hm ⊢
  obtain ⟨q, hq⟩ : ∃ q, ch.length = q := ⟨_, rfl⟩
  have hq' := Lib.hid hq
  rw [hq] at hc hH ⊢
  obtain ⟨nl, hnl⟩ : ∃ n, l.length = n := ⟨_, rfl⟩
  rw [hnl]
  clear hat3 hatc hm0 hq hnl
  obtain ⟨R, hR⟩ : ∃ R, cov P ch = R := ⟨_, rfl⟩
  have hR' := Lib.hid hR
  rw [hR]
  clear hR
  go_enter Tryz.func39, Tryz.ntmps39
  go_wp2
  go_loopw [10] (fun i wr => ∃ k : Nat, k ≤ m ∧ i = .int .i64 k ∧ Hid (cov (P.take k) ch = true) ∧ Below w.heap.size w wr) (fun i _ => m - (intOf i).toNat)
  case atStart => exact ⟨0, Nat.zero_le _, rfl, rfl, Below.refl _ _⟩
  case round =>
    obtain ⟨k, hk, rfl, hno, hbw⟩ := hrel
    by_cases hlt : k < m
    · obtain ⟨p, hp⟩ : ∃ p, P[k]? = some p := ⟨_, List.getElem?_eq_getElem (by rw [hm'.out]; exact hlt)⟩
      obtain ⟨b, o, rfl, hbb, hc⟩ := hat'.out.below hbw k p hp
      have hnx := cov_take hp hno.out
      have y0 := hc 0 _ rfl
      have y1 := hc 1 _ rfl
      simp only [Nat.add_zero] at y0
      have hkI : (k : Int) < (m : Int) := by omega
      have h1 := Lib.hid fun W hb => hH.out (p.1 : Int) W hb
      have h2 := Lib.hid fun W hb => hH.out (p.2 : Int) W hb
      obtain ⟨q1, hq1⟩ : ∃ q, ch.contains (p.1 : Int) = q := ⟨_, rfl⟩
      obtain ⟨q2, hq2⟩ : ∃ q, ch.contains (p.2 : Int) = q := ⟨_, rfl⟩
      rw [hq1] at h1 hnx
      rw [hq2] at h2 hnx
      obtain ⟨a1, ha1⟩ : ∃ a : Int, (p.1 : Int) = a := ⟨_, rfl⟩
      obtain ⟨a2, ha2⟩ : ∃ a : Int, (p.2 : Int) = a := ⟨_, rfl⟩
      rw [ha1] at y0 h1
      rw [ha2] at y1 h2
      have hnx' := Lib.hid hnx
      clear hc hp hno hq1 hq2 ha1 ha2 hnx
      cases q1
      · cases q2
        · have hF : R = false := by rw [← hR'.out]; exact cov_bad hnx'.out
          subst hF
          go_wp2_with (first | (go_at_call 38; first | (refine Calls.mono (by with_reducible exact h1.out _ hbw) ?_; rintro e w' ⟨rfl, rfl⟩) | (refine Calls.mono (by with_reducible exact h2.out _ hbw) ?_; rintro e w' ⟨rfl, rfl⟩)))
          refine bodyPost_ret (v := .tuple #[.slice none 0 0, .bool false]) ?_ rfl ⟨rfl, hbw⟩
          simp [results, Tryz.results39, go_sem]
        · go_wp2_with (first | (go_at_call 38; first | (refine Calls.mono (by with_reducible exact h1.out _ hbw) ?_; rintro e w' ⟨rfl, rfl⟩) | (refine Calls.mono (by with_reducible exact h2.out _ hbw) ?_; rintro e w' ⟨rfl, rfl⟩)))
          go_roundw
          case rel => exact ⟨k + 1, by omega, by go_num, hnx'.out, hbw⟩
          case measure => simp [intOf]; omega
      · go_wp2_with (first | (go_at_call 38; first | (refine Calls.mono (by with_reducible exact h1.out _ hbw) ?_; rintro e w' ⟨rfl, rfl⟩) | (refine Calls.mono (by with_reducible exact h2.out _ hbw) ?_; rintro e w' ⟨rfl, rfl⟩)))
        go_roundw
        case rel => exact ⟨k + 1, by omega, by go_num, hnx'.out, hbw⟩
        case measure => simp [intOf]; omega
    · have hkm : k = m := by omega
      have hT : R = true := by
        rw [← hR'.out]
        have := hno.out
        rwa [List.take_of_length_le (by rw [hm'.out, hkm]; exact Nat.le_refl _)] at this
      subst hT
      have hkI : ¬ (k : Int) < (m : Int) := by omega
      clear hkm
      go_wp2
      refine bodyPost_ret (v := .tuple #[.slice B q cb, .bool true]) ?_ rfl ⟨⟨B, cb, by rw [hq'.out], hatc'.out.below hbw⟩, hbw⟩
      simp [results, Tryz.results39, go_sem]
end Go.Proofs
