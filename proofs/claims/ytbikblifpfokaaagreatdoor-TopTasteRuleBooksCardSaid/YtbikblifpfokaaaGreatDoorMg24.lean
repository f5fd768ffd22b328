import Derived.Test.YtbikblifpfokaaaGreatDoorMg21
import Derived.Test.YtbikblifpfokaaaGreatDoorMg20
import Derived.Test.YtbikblifpfokaaaGreatDoorMg12
set_option linter.unusedSimpArgs false
set_option linter.unusedVariables false
namespace Go.Proofs
open Go.RowKit

/-! marksErr's closure: whether a number isn't a mark's. -/
set_option maxRecDepth 100000 in
theorem noMark_any (n nc n2 c2 : Nat) (A1 A2 : Option Addr) (bg x : Int) (D : Nat) (w : World) (hn : n ≤ 1000) (hD : w.heap[D]? = some (.cells #[.slice A1 n nc, .int .i64 bg, .slice A2 n2 c2] 62 (0, 0))) :
    Calls Tryz.prog 90 #[.int .i64 x, .pointer (some ⟨D, 0, none⟩)] w fun e w' => e = .returned (.bool (!(wi n x))) ∧ Below w.heap.size w w' := by
  have C := bk3 hD
  have hW := Lib.hid fun W => within_any x 0 ((n : Int) - 1) W
  have hnw : IntKind.i64.wrap ((n : Int) - 1) = (n : Int) - 1 := IntWalk.i64_in _ (by omega)
  unfold wi
  generalize within x 0 ((n : Int) - 1) = q at *
  cases q
  all_goals
    go_enter Tryz.func90, Tryz.ntmps90
    go_wp2_with (go_at_call 42; refine (hW.out _).mono ?_; rintro e w' ⟨rfl, rfl⟩)
    go_ret
    exact ⟨rfl, by go_grown⟩
set_option maxRecDepth 100000 in
set_option maxHeartbeats 1000000 in
theorem indexMarks_any (A : Option Addr) (l : List Int) (c n nc n2 c2 : Nat) (A1 A2 : Option Addr) (bg : Int) (D : Nat) (w : World) (hl : l.length ≤ 1000) (hn : n ≤ 1000) (hat : At 1 Ic w A l) (hD : w.heap[D]? = some (.cells #[.slice A1 n nc, .int .i64 bg, .slice A2 n2 c2] 62 (0, 0))) :
    Calls Tryz.prog 56 #[.slice A l.length c, .func (.func 90) #[] #[.pointer (some ⟨D, 0, none⟩)]] w fun e w' => (∃ r : Int, e = .returned (.int .i64 r) ∧ decide (0 ≤ r) = l.any fun y => !(wi n y)) ∧ Below w.heap.size w w' := by
  have hC := Lib.hid fun (y : Int) W (hb : Below w.heap.size w W) => noMark_any n nc n2 c2 A1 A2 bg y D W hn (bk_keep hb hD)
  have hat' := Lib.hid hat
  obtain ⟨m, hm⟩ : ∃ n, l.length = n := ⟨_, rfl⟩
  have hm' := Lib.hid hm
  rw [hm] at hl ⊢
  clear hat hD hm hn
  go_enter Tryz.func56, Tryz.ntmps56
  go_wp2_with fail
  go_loopw [8] (fun i wr => ∃ k : Nat, k ≤ m ∧ i = .int .i64 k ∧ Hid (((l.take k).any fun y => !(wi n y)) = false) ∧ Below w.heap.size w wr) (fun i _ => m - (intOf i).toNat)
  case atStart => exact ⟨0, Nat.zero_le _, rfl, rfl, Below.refl _ _⟩
  case round =>
    obtain ⟨k, hk, rfl, hno, hbw⟩ := hrel
    by_cases hlt : k < m
    · obtain ⟨y, hy⟩ : ∃ y, l[k]? = some y := ⟨_, List.getElem?_eq_getElem (by rw [hm'.out]; exact hlt)⟩
      obtain ⟨b, o, rfl, hbb, hc⟩ := hat'.out.below hbw k y hy
      have hCy := Lib.hid fun W hb => hC.out y W hb
      obtain ⟨q, hq⟩ : ∃ q, (!(wi n y)) = q := ⟨_, rfl⟩
      have hnext : Hid (((l.take (k + 1)).any fun y => !(wi n y)) = q) := by
        obtain ⟨hk', he⟩ := List.getElem?_eq_some_iff.1 hy
        unfold Hid
        rw [List.take_succ_eq_append_getElem hk', List.any_append, he, hno.out]
        simpa using hq
      have hall : Hid (q = true → (l.any fun y => !(wi n y)) = true) := fun h => by
        rw [List.any_eq_true]
        exact ⟨y, List.mem_of_getElem? hy, by rw [hq, h]⟩
      rw [hq] at hCy
      have y0 := hc 0 _ rfl
      simp only [Nat.add_zero, Nat.mul_one] at y0
      have hkI : (k : Int) < (m : Int) := by omega
      clear hc hy hq hno hC
      cases q
      · go_wp2_with (go_at_call 90; refine (hCy.out _ hbw).mono ?_; rintro e w1 ⟨rfl, hb⟩; have hbw := via hbw hb)
        go_roundw
        case rel => exact ⟨k + 1, by omega, by go_num, hnext, hbw⟩
        case measure => simp [intOf]; omega
      · have ht := hall.out rfl
        go_wp2_with (go_at_call 90; refine (hCy.out _ hbw).mono ?_; rintro e w1 ⟨rfl, hb⟩; have hbw := via hbw hb)
        go_ret
        exact ⟨⟨k, rfl, by rw [ht]; simp⟩, hbw⟩
    · have hkn : k = m := by omega
      subst hkn
      have hno2 := hno.out
      rw [List.take_of_length_le (by rw [hm'.out]; exact Nat.le_refl _)] at hno2
      have hno3 := Lib.hid hno2
      clear hno hno2 hC
      go_wp2
      go_ret
      exact ⟨⟨-1, rfl, by rw [hno3.out]; decide⟩, hbw⟩
set_option maxRecDepth 100000 in
theorem containsMarks_any (A : Option Addr) (l : List Int) (c n nc n2 c2 : Nat) (A1 A2 : Option Addr) (bg : Int) (D : Nat) (w : World) (hl : l.length ≤ 1000) (hn : n ≤ 1000) (hat : At 1 Ic w A l) (hD : w.heap[D]? = some (.cells #[.slice A1 n nc, .int .i64 bg, .slice A2 n2 c2] 62 (0, 0))) :
    Calls Tryz.prog 40 #[.slice A l.length c, .func (.func 90) #[] #[.pointer (some ⟨D, 0, none⟩)]] w fun e w' => e = .returned (.bool (l.any fun y => !(wi n y))) ∧ Below w.heap.size w w' := by
  have hI := indexMarks_any A l c n nc n2 c2 A1 A2 bg D w hl hn hat hD
  generalize (l.any fun y => !(wi n y)) = q at *
  generalize l.length = m at *
  clear hat hD hn
  go_enter Tryz.func40, Tryz.ntmps40
  go_wp2_with (go_at_call 56; refine hI.mono ?_; rintro e w1 ⟨⟨r, rfl, hr⟩, hb⟩)
  go_ret
  exact ⟨rfl, hb⟩
end Go.Proofs

set_option linter.unusedSimpArgs false
set_option linter.unusedVariables false
namespace Go.Proofs
open Go.RowKit

set_option maxRecDepth 100000 in
set_option maxHeartbeats 1000000 in
/-- marksErr of few marks, each of the book. -/
theorem marksErr_ok (A : Option Addr) (l : List Int) (c n nc n2 c2 : Nat) (A1 A2 : Option Addr) (bg : Int) (w : World) (hl : l.length ≤ 40) (hn : n ≤ 1000) (hat : At 1 Ic w A l) (hok : ∀ x ∈ l, wi n x = true) :
    Calls Tryz.prog 69 #[.agg #[.slice A1 n nc, .int .i64 bg, .slice A2 n2 c2], .slice A l.length c] w fun e w' => e = .returned (.int .i64 0) ∧ Below w.heap.size w w' := by
  have hC := Lib.hid fun D W (hb : Below w.heap.size w W) hD => containsMarks_any A l c n nc n2 c2 A1 A2 bg D W (by omega) hn (hat.below hb) hD
  have hv : (l.any fun y => !(wi n y)) = false := by
    rw [List.any_eq_false]
    intro y hy
    simp [hok y hy]
  rw [hv] at hC
  have hU8 := Lib.hid fun W => unless_any true 8 W
  have hU6 := Lib.hid fun W => unless_any true 6 W
  unfold unl at hU8 hU6
  simp only [if_true] at hU8 hU6
  generalize l.length = m at *
  have hmI : (m : Int) ≤ 40 := by omega
  clear hv hok hat hn
  go_enter Tryz.func69, Tryz.ntmps69
  go_wp2_with (first
    | (go_at_call 40; refine (hC.out w.heap.size _ ?_ (bk_new _ _ rfl)).mono ?_; (· go_grown); rintro e w1 ⟨rfl, hb⟩; have hbw := via (by go_grown : Below w.heap.size w _) hb)
    | (go_at_call 32; (first | refine (hU8.out _).mono ?_ | refine (hU6.out _).mono ?_); rintro e w1 ⟨rfl, rfl⟩)
    | (go_at_call 31; refine (first2_any _ _ (bk2 (bk_new _ _ rfl)).1 (bk2 (bk_new _ _ rfl)).2.1).mono ?_; rintro e w1 ⟨rfl, rfl⟩))
  go_ret
  exact ⟨rfl, via hbw (new_below _ _)⟩
end Go.Proofs

set_option linter.unusedSimpArgs false
set_option linter.unusedVariables false
namespace Go.Proofs
open Go.RowKit
section
variable {P : Program}
/-! A drawn region: a row is made, a call reads it and gives a value, a cell of an old block is written; all else is quiet. -/
def mkCK (m c n : Nat) (vc : Value) : Nat → Gh → Value := fun j g => if j = m then .slice (some ⟨g.b, 0, none⟩) n n else if j = c then vc else undef
theorem any_mck {Q : Exit → Act → World → Prop} {a0 : Act} {w : World} {l : List Oper} (w0 : World) (C : World → Prop) (m c k n : Nat) (vc : Value) (z : Obj) (bK : Nat) (zO zN : Obj) (af : (Nat → Gh) → Act)
    (hB : slotsOk l.toArray = true) (hB' : ∀ g, slotsOk (mixL [m, c, k] (mkCK m c n vc) g 0 l).toArray = true) (hS : Region.noSelect l.toArray = true) (hN : spB l.toArray [m, c, k] = true)
    (hne : [m, c, k].Pairwise (· ≠ ·)) (hkd : ∀ o, l[k]? = some o → o.dst = none)
    (hd : (match l[c]? with | some o => o.after.any (fun e => Region.binds .any e && e.on == m) | none => false) = true)
    (hC0 : C w) (hCs : ∀ x x', C x → Below x.heap.size x x' → C x') (hCw : ∀ x, C x → Below w0.heap.size w0 x) (hCk : ∀ x x', C x → OnlyB bK x x' → C x')
    (hblk : w.heap[bK]? = some zO)
    (hq : ∀ g u, C u → (∀ (x : Grew u) (b o : Nat), b < u.heap.size → x.val.cell? ⟨b, o, none⟩ = u.cell? ⟨b, o, none⟩) → Hid (∀ x : Grew u, Below w0.heap.size w0 x.val) → Hid (∀ x : Grew u, C x.val) →
      wpQuiet P (mixL [m, c, k] (mkCK m c n vc) g 0 l).toArray (fun w' => ∃ x : Grew u, w' = x.val) (fun a' => a' = af g) (mixL [m, c, k] (mkCK m c n vc) g 0 l) a0)
    (hind : ∀ j ∈ [m, c, k], ∀ g h, maskL (coneS l.toArray j 0 l []) 0 (af g).tmps.toList = maskL (coneS l.toArray j 0 l []) 0 (af (upd g j h)).tmps.toList)
    (hm1 : ∀ o, l[m]? = some o → ∀ g x, (execOp (af g).eval o).run P x = .ok (.value (.slice (some ⟨x.heap.size, 0, none⟩) n n)) (x.alloc z))
    (hc1 : ∀ o, l[c]? = some o → ∀ (g : Nat → Gh) x, C x → x.heap[(g m).b]? = some z → ∃ f args, (execOp (af g).eval o).run P x = .ok (.enter f args) x ∧ Calls P f args x fun e x' => e = .returned vc ∧ Below x.heap.size x x')
    (hk1 : ∀ o, l[k]? = some o → ∀ (g : Nat → Gh) x, C x → x.heap[bK]? = some zO → ∃ x', (execOp (af g).eval o).run P x = .ok .skip x' ∧ OnlyB bK x x' ∧ x'.heap[bK]? = some zN)
    (hmk : ∀ x, C x → bK < x.heap.size) (hb0 : bK < w.heap.size) (hCb : ∀ x, C x → w.heap.size ≤ x.heap.size)
    (hend : ∀ (g : Nat → Gh) x, C x → x.heap[bK]? = some zN → Q .normal (af g) x) :
    wpAny P .any l.toArray Q l.toArray.size (Array.replicate l.toArray.size false) a0 { w with drawn := w.drawn + 1 } := by
  simp only [List.pairwise_cons, List.mem_cons, List.not_mem_nil, or_false, forall_eq_or_imp, forall_eq, List.Pairwise.nil, and_true] at hne
  obtain ⟨⟨a1, a2⟩, b1, -⟩ := hne
  have afterC : ∀ {L : Nat → Bool} {o : Oper}, l[c]? = some o → (∀ e ∈ o.after, Region.binds .any e = true → L e.on = true) → L m = true := by
    intro L o ho haft
    rw [ho] at hd
    dsimp only at hd
    obtain ⟨e, he, hb⟩ := Array.any_eq_true'.1 hd
    simp only [Bool.and_eq_true, beq_iff_eq] at hb
    have h1 := haft e he hb.1
    rw [hb.2] at h1
    exact h1
  refine any_mixC w0 C [m, c, k] (mkCK m c n vc) (fun L g x => (L m = true → w.heap.size ≤ (g m).b ∧ x.heap[(g m).b]? = some z) ∧ (L k = false → x.heap[bK]? = some zO) ∧ (L k = true → x.heap[bK]? = some zN)) af hB hB' hS hN hC0 hCs hCw ?_ ?_ hq hind ?_ ?_
  · intro L h
    have l1 := h m (by simp)
    have l3 := h k (by simp)
    rw [l1, l3]
    exact ⟨(fun h => by cases h), fun _ => hblk, (fun h => by cases h)⟩
  · rintro L L' g x x' h ⟨j1, j2, j3⟩ hb
    have l1 := h m (by simp)
    have l3 := h k (by simp)
    rw [l1, l3]
    exact ⟨fun h => ⟨(j1 h).1, bk_keep hb (j1 h).2⟩, fun h => bk_keep hb (j2 h), fun h => bk_keep hb (j3 h)⟩
  · intro j hj o ho L g x ⟨j1, j2, j3⟩ hC hb0' hL hafter _
    simp only [List.mem_cons, List.not_mem_nil, or_false] at hj
    rcases hj with rfl | rfl | rfl
    · refine does_value (hm1 o ho g x) ⟨hCs _ _ hC (new_below _ _), .inr ⟨{ Gh.zero with b := x.heap.size }, by simp [mkCK], ?_⟩⟩
      rw [setL_self, setL_ne (Ne.symm a2), upd_self]
      exact ⟨fun _ => ⟨hCb _ hC, bk_new _ _ rfl⟩, fun h => bk_keep (new_below _ _) (j2 h), fun h => bk_keep (new_below _ _) (j3 h)⟩
    · have lm := afterC ho hafter
      obtain ⟨f, args, r1, r2⟩ := hc1 o ho g x hC (j1 lm).2
      refine does_enter r1 (r2.mono ?_)
      rintro e' x' ⟨rfl, p2⟩
      refine ⟨_, rfl, hCs _ _ hC p2, .inr ⟨Gh.zero, by simp [mkCK, Ne.symm a1], ?_⟩⟩
      rw [setL_ne a1, setL_ne (Ne.symm b1), upd_ne a1]
      exact ⟨fun h => ⟨(j1 h).1, bk_keep p2 (j1 h).2⟩, fun h => bk_keep p2 (j2 h), fun h => bk_keep p2 (j3 h)⟩
    · obtain ⟨x', r1, r2, r3⟩ := hk1 o ho g x hC (j2 hL)
      refine does_skip r1 ⟨hCk _ _ hC r2, .inl ⟨hkd o ho, ?_⟩⟩
      rw [setL_self, setL_ne a2]
      exact ⟨fun h => ⟨(j1 h).1, r2.keep (by have := (j1 h).1; omega) (j1 h).2⟩, (fun h => by cases h), fun _ => r3⟩
  · rintro g x ⟨-, -, j3⟩ hC hb0
    exact hend g x hC (j3 rfl)
end
end Go.Proofs
