import Derived.Test.YtmnjoamkaapjcaaGreatMg13
import Derived.Test.YtmnjoamkaapjcaaGreatMg18
import Derived.Test.YtmnjoamkaapjcaaGreatMg11
set_option linter.unusedSimpArgs false
set_option linter.unusedVariables false
namespace Go.Proofs
open Go.RowKit

theorem datedE_zero {α : Type} {err : α → Int} {day : α → Int} : ∀ (l : List α) (b : Option Int) (k : Nat), (datedE err day l b k).2 = 0 → ∀ x ∈ l, err x = 0
  | [], _, _, _, _, hx => by cases hx
  | y :: l, b, k, h, x, hx => by
    unfold datedE at h
    by_cases hz : firstE [err y, unl (okDay b (day y)) 9] = 0
    · rw [if_pos hz] at h
      rcases List.mem_cons.1 hx with rfl | hx
      · exact (firstE2_zero hz).1
      · exact datedE_zero l _ _ h x hx
    · rw [if_neg hz] at h
      exact (hz h).elim
theorem datedE_up {α : Type} {err : α → Int} {day : α → Int} : ∀ (l : List α) (b : Option Int) (k : Nat), (datedE err day l b k).2 = 0 → ∀ (i : Nat) (x y : α), l[i]? = some x → l[i + 1]? = some y → day x ≤ day y
  | z :: t :: l, b, k, h, i, x, y, hx, hy => by
    unfold datedE at h
    by_cases hz : firstE [err z, unl (okDay b (day z)) 9] = 0
    · rw [if_pos hz] at h
      cases i with
      | zero =>
        simp only [List.getElem?_cons_zero, Option.some.injEq] at hx
        simp only [Nat.zero_add, List.getElem?_cons_succ, List.getElem?_cons_zero, Option.some.injEq] at hy
        subst hx hy
        unfold datedE at h
        by_cases hz2 : firstE [err t, unl (okDay (some (day z)) (day t)) 9] = 0
        · have := unl_zero (by decide) (firstE2_zero hz2).2
          simpa [okDay] using this
        · rw [if_neg hz2] at h
          exact (hz2 h).elim
      | succ i =>
        simp only [List.getElem?_cons_succ] at hx hy
        exact datedE_up (t :: l) _ _ h i x y hx hy
    · rw [if_neg hz] at h
      exact (hz h).elim
  | [z], b, k, h, i, x, y, hx, hy => by simp at hy
theorem firstE3_zero {a b c : Int} (h : firstE [a, b, c] = 0) : a = 0 ∧ b = 0 ∧ c = 0 := by
  simp only [firstE] at h
  by_cases ha : a = 0 <;> by_cases hb : b = 0 <;> by_cases hc : c = 0 <;> simp [ha, hb, hc] at h ⊢
theorem rdErr_zero {x : Rd} (h : rdErr x = 0) : 0 ≤ x.d ∧ x.d ≤ 100000 ∧ 0 ≤ x.lo ∧ x.lo ≤ 100000 ∧ 0 ≤ x.hi ∧ x.hi ≤ 100000 := by
  unfold rdErr gaugingE at h
  obtain ⟨_, h2, _⟩ := firstE3_zero h
  have := unl_zero (by decide) h2
  simp only [Bool.and_eq_true] at this
  have a := within_true this.1.1
  have b := within_true this.1.2
  have c := within_true this.2
  omega
theorem moveE_zero {m : Mv} (h : moveE m = 0) : 0 ≤ m.v ∧ m.v ≤ 100000 := by
  unfold moveE firstE at h
  split at h
  · obtain ⟨_, _, h3⟩ := firstE3_zero h
    exact within_true (unl_zero (by decide) h3)
  · rename_i hn; exact (hn h).elim
theorem checkB_zero {l0 l1 : Int} {rs : List Rd} {ms : List Mv} (h : (checkB l0 l1 rs ms).2 = 0) :
    bookE l0 l1 rs.length ms.length = 0 ∧ (datedE rdErr Rd.d rs none 0).2 = 0 ∧ (datedE moveE Mv.d ms none 0).2 = 0 := by
  unfold checkB at h
  by_cases h1 : bookE l0 l1 rs.length ms.length = 0
  · rw [if_pos h1] at h
    by_cases h2 : (datedE rdErr Rd.d rs none 0).2 = 0
    · rw [if_pos h2] at h
      by_cases h3 : (datedE moveE Mv.d ms none 0).2 = 0
      · exact ⟨h1, h2, h3⟩
      · rw [if_neg h3] at h; exact (h3 h).elim
    · rw [if_neg h2] at h; exact (h2 h).elim
  · rw [if_neg h1] at h; exact (h1 h).elim
theorem right_of {l0 l1 : Int} {rs : List Rd} {ms : List Mv} (h : (checkB l0 l1 rs ms).2 = 0) : Right l0 l1 rs ms := by
  obtain ⟨h1, h2, h3⟩ := checkB_zero h
  obtain ⟨a, b, c, d, e⟩ := bookE_zero h1
  exact ⟨within_true a, within_true b, d, e, fun x hx => rdErr_zero (datedE_zero _ _ _ h2 x hx), fun m hm => moveE_zero (datedE_zero _ _ _ h3 m hm)⟩

def volAtE (l0 l1 : Int) (rs : List Rd) (ms : List Mv) (cask : ByteArray) (day : Int) : Int := firstE [(checkB l0 l1 rs ms).2, unl (nameB cask.data.toList) 4, unl (within day 0 100000) 2]
def volAtV (l0 l1 : Int) (rs : List Rd) (ms : List Mv) (cask : ByteArray) (day : Int) : (Int × Int) × Int :=
  if volAtE l0 l1 rs ms cask day = 0 then atV l0 l1 rs ms cask day else ((0, 0), volAtE l0 l1 rs ms cask day)

set_option maxRecDepth 100000 in
set_option maxHeartbeats 1000000 in
theorem volumeAt_any (l0 l1 : Int) (A A2 : Option Addr) (rs : List Rd) (ms : List Mv) (c c2 : Nat) (cask : ByteArray) (day : Int) (w : World)
    (hs : ∀ x ∈ rs, x.c.size ≤ 9223372036854775807) (hat : At 4 Rd.cs w A rs)
    (hs2 : ∀ x ∈ ms, x.f.size ≤ 9223372036854775807 ∧ x.t.size ≤ 9223372036854775807) (hat2 : At 4 Mv.cs w A2 ms) (hsc : cask.size ≤ 9223372036854775807) :
    Calls Tryz.prog 19 #[.agg #[.int .i64 l0, .int .i64 l1, .slice A rs.length c, .slice A2 ms.length c2], .string cask, .int .i64 day] w fun e w' =>
      e = .returned (.tuple #[.agg #[.int .i64 (volAtV l0 l1 rs ms cask day).1.1, .int .i64 (volAtV l0 l1 rs ms cask day).1.2], .int .i64 (volAtV l0 l1 rs ms cask day).2]) ∧ Below w.heap.size w w' := by
  have hO := Lib.hid fun W hb => openBook_any l0 l1 A A2 rs ms c c2 W hs (At.below hat hb) hs2 (At.below hat2 hb)
  have hN := Lib.hid fun W => nameErr_any cask W hsc
  unfold volAtV
  obtain ⟨Z, hZ⟩ : ∃ Z, volAtE l0 l1 rs ms cask day = Z := ⟨_, rfl⟩
  rw [hZ]
  have hR : Hid (Z = 0 → Right l0 l1 rs ms ∧ 0 ≤ day ∧ day ≤ 100000) := fun hz => by
    rw [hz] at hZ
    obtain ⟨h1, _, h2⟩ := firstE3_zero hZ
    exact ⟨right_of h1, within_true (unl_zero (by decide) h2)⟩
  have hat' := Lib.hid hat
  have hat2' := Lib.hid hat2
  unfold volAtE at hZ
  generalize (checkB l0 l1 rs ms).2 = E at *
  generalize unl (nameB cask.data.toList) 4 = F at *
  clear hat hat2
  by_cases hz : Z = 0
  · rw [if_pos hz]
    obtain ⟨hR1, hd1, hd2⟩ := hR.out hz
    have hT := Lib.hid fun W hb => at_any l0 l1 A A2 rs ms c c2 cask day W hR1 (At.below hat'.out hb) (At.below hat2'.out hb) hd1 hd2
    rw [hz] at hZ
    subst hz
    generalize atV l0 l1 rs ms cask day = T at *
    obtain ⟨⟨T1, T2⟩, T3⟩ := T
    dsimp only at *
    have hne : (firstE [E, F, unl (within day 0 100000) 2] != 0) = false := by simp [hZ]
    clear hR1 hR hZ
    go_enter Tryz.func19, Tryz.ntmps19
    go_wp2_with (first
      | (go_at_call 24; refine (hO.out _ ?_).mono ?_; (· go_grown); rintro e w1 ⟨rfl, hb⟩; have hcc := gcell hb; have hff := gfrozen hb; have hbw := via (by go_grown : Below w.heap.size w _) hb; have hz0 : w.heap.size < w1.heap.size := (by have := hb.size; simp at this; omega); have hz1 : w.heap.size + 1 < w1.heap.size := (by have := hb.size; simp at this; omega))
      | (go_at_call 45; refine (hN.out _).mono ?_; rintro e w2 ⟨rfl, hb2⟩; have hcc2 := gcell hb2; have hff2 := gfrozen hb2; have hbw2 := via (by go_grown : Below w.heap.size w _) hb2; have hz2 : w1.heap.size < w2.heap.size := (by have := hb2.size; simp at this; omega); have hz3 : w.heap.size < w2.heap.size := (by omega); have hz4 : w.heap.size + 1 < w2.heap.size := (by omega))
      | (go_at_call 46; refine (dayErr_any _ _).mono ?_; rintro e w' ⟨rfl, rfl⟩)
      | (go_at_call 33; refine (first3 _ _ _ _).mono ?_; rintro e w' ⟨rfl, rfl⟩)
      | (go_at_call 47; refine (hT.out _ ?_).mono ?_; (· go_grown); rintro e w3 ⟨rfl, hb3⟩; have hcc3 := gcell hb3; have hff3 := gfrozen hb3; have hbw3 := via (by go_grown : Below w.heap.size w _) hb3; have hz5 : w.heap.size + 1 < w3.heap.size := (by have := hb3.size; simp at this; omega)))
    refine bodyPost_ret (v := .tuple #[.agg #[.int .i64 T1, .int .i64 T2], .int .i64 T3]) ?_ rfl ⟨rfl, ?_⟩
    · simp [results, Tryz.results19, go_sem, hcc, hff, hcc2, hff2, hcc3, hff3, hz0, hz1, hz2, hz3, hz4, hz5]
    · go_grown
  · rw [if_neg hz]
    have hne : (firstE [E, F, unl (within day 0 100000) 2] != 0) = true := by simp [hZ, hz]
    have hZ' := Lib.hid hZ
    clear hZ hR hz
    go_enter Tryz.func19, Tryz.ntmps19
    go_wp2_with (first
      | (go_at_call 24; refine (hO.out _ ?_).mono ?_; (· go_grown); rintro e w1 ⟨rfl, hb⟩; have hcc := gcell hb; have hff := gfrozen hb; have hbw := via (by go_grown : Below w.heap.size w _) hb; have hz0 : w.heap.size < w1.heap.size := (by have := hb.size; simp at this; omega); have hz1 : w.heap.size + 1 < w1.heap.size := (by have := hb.size; simp at this; omega))
      | (go_at_call 45; refine (hN.out _).mono ?_; rintro e w2 ⟨rfl, hb2⟩; have hcc2 := gcell hb2; have hff2 := gfrozen hb2; have hbw2 := via (by go_grown : Below w.heap.size w _) hb2; have hz2 : w1.heap.size < w2.heap.size := (by have := hb2.size; simp at this; omega); have hz3 : w.heap.size < w2.heap.size := (by omega); have hz4 : w.heap.size + 1 < w2.heap.size := (by omega))
      | (go_at_call 46; refine (dayErr_any _ _).mono ?_; rintro e w' ⟨rfl, rfl⟩)
      | (go_at_call 33; refine (first3 _ _ _ _).mono ?_; rintro e w' ⟨rfl, rfl⟩))
    refine bodyPost_ret (v := .tuple #[.agg #[.int .i64 0, .int .i64 0], .int .i64 Z]) ?_ rfl ⟨rfl, ?_⟩
    · simp [results, Tryz.results19, go_sem, hcc, hff, hcc2, hff2, hz0, hz1, hz2, hz3, hz4, hZ'.out]
    · go_grown

def netOfE (l0 l1 : Int) (rs : List Rd) (ms : List Mv) (cask : ByteArray) (a b : Int) : Int :=
  firstE [(checkB l0 l1 rs ms).2, unl (nameB cask.data.toList) 4, unl (within a 0 100000) 2, unl (within b 0 100000) 2, unl (decide (a ≤ b)) 9]
def netOfV (l0 l1 : Int) (rs : List Rd) (ms : List Mv) (cask : ByteArray) (a b : Int) : Int :=
  if netOfE l0 l1 rs ms cask a b = 0 then netL ms cask a b else 0
theorem firstE5_zero {a b c d e : Int} (h : firstE [a, b, c, d, e] = 0) : a = 0 ∧ b = 0 ∧ c = 0 ∧ d = 0 ∧ e = 0 := by
  simp only [firstE] at h
  by_cases ha : a = 0 <;> by_cases hb : b = 0 <;> by_cases hc : c = 0 <;> by_cases hd : d = 0 <;> by_cases he : e = 0 <;> simp [ha, hb, hc, hd, he] at h ⊢

set_option maxRecDepth 100000 in
set_option maxHeartbeats 1000000 in
theorem netOf_any (l0 l1 : Int) (A A2 : Option Addr) (rs : List Rd) (ms : List Mv) (c c2 : Nat) (cask : ByteArray) (a b : Int) (w : World)
    (hs : ∀ x ∈ rs, x.c.size ≤ 9223372036854775807) (hat : At 4 Rd.cs w A rs)
    (hs2 : ∀ x ∈ ms, x.f.size ≤ 9223372036854775807 ∧ x.t.size ≤ 9223372036854775807) (hat2 : At 4 Mv.cs w A2 ms) (hsc : cask.size ≤ 9223372036854775807) :
    Calls Tryz.prog 21 #[.agg #[.int .i64 l0, .int .i64 l1, .slice A rs.length c, .slice A2 ms.length c2], .string cask, .agg #[.int .i64 a, .int .i64 b]] w fun e w' =>
      e = .returned (.tuple #[.int .i64 (netOfV l0 l1 rs ms cask a b), .int .i64 (netOfE l0 l1 rs ms cask a b)]) ∧ Below w.heap.size w w' := by
  have hO := Lib.hid fun W hb => openBook_any l0 l1 A A2 rs ms c c2 W hs (At.below hat hb) hs2 (At.below hat2 hb)
  have hN := Lib.hid fun W => nameErr_any cask W hsc
  unfold netOfV
  obtain ⟨Z, hZ⟩ : ∃ Z, netOfE l0 l1 rs ms cask a b = Z := ⟨_, rfl⟩
  rw [hZ]
  have hR : Hid (Z = 0 → Right l0 l1 rs ms) := fun hz => by
    rw [hz] at hZ
    exact right_of (firstE5_zero hZ).1
  have hat' := Lib.hid hat
  have hat2' := Lib.hid hat2
  unfold netOfE at hZ
  generalize (checkB l0 l1 rs ms).2 = E at *
  generalize unl (nameB cask.data.toList) 4 = F at *
  clear hat hat2
  obtain ⟨X, hX, hg⟩ : ∃ X, X = (if Z = 0 then netL ms cask a b else 0) ∧ (Z = 0 → Hid (∀ W, Below w.heap.size w W → Calls Tryz.prog 48 #[.agg #[.int .i64 l0, .int .i64 l1, .slice A rs.length c, .slice A2 ms.length c2], .string cask, .int .i64 a, .int .i64 b] W fun e w' => e = .returned (.int .i64 X) ∧ Below W.heap.size W w')) := by
    by_cases hz : Z = 0
    · refine ⟨_, rfl, fun _ => fun W hb => ?_⟩
      rw [if_pos hz]
      have hr := hR.out hz
      exact net_any l0 l1 _ A2 ms c2 cask a b W hr.mn hr.mv (At.below hat2'.out hb)
    · exact ⟨_, rfl, fun h => (hz h).elim⟩
  rw [← hX]
  clear hR
  by_cases hab : a ≤ b
  all_goals
    first | have hd : decide (a ≤ b) = true := decide_eq_true hab | have hd : decide (a ≤ b) = false := decide_eq_false hab
    rw [hd] at hZ
    clear hab
    by_cases hz : Z = 0
    all_goals
      first
        | (have hT := hg hz
           have hne : (Z != 0) = false := by simp [hz])
        | (have hX0 : X = 0 := by rw [hX, if_neg hz]
           have hne : (Z != 0) = true := by simp [hz])
      have hZ' := Lib.hid hZ
      have hX' := Lib.hid hX
      have hz' := Lib.hid hz
      clear hg hX hz
      first | clear hX0 | skip
      rw [← hZ] at hne
      clear hZ
      go_enter Tryz.func21, Tryz.ntmps21
      go_wp2_with (first
        | (go_at_call 24; refine (hO.out _ ?_).mono ?_; (· go_grown); rintro e w1 ⟨rfl, hb⟩; have hcc := gcell hb; have hff := gfrozen hb; have hbw := via (by go_grown : Below w.heap.size w _) hb; have hz0 : w.heap.size < w1.heap.size := (by have := hb.size; simp at this; omega); have hz1 : w.heap.size + 1 < w1.heap.size := (by have := hb.size; simp at this; omega)))
      have k0 : w1.cell? ⟨w.heap.size + 1, 0, none⟩ = some (.int .i64 a) := by rw [hcc _ _ (by simp)]; simp [go_sem]
      have k1 : w1.cell? ⟨w.heap.size + 1, 1, none⟩ = some (.int .i64 b) := by rw [hcc _ _ (by simp)]; simp [go_sem]
      clear hcc hff hb
      refine region_in w 15 (by kernel_rfl) (by kernel_rfl) (by go_grown) ?_
      intro hgc hbx
      simp only [List.take_succ_cons, List.take_zero, List.drop_succ_cons, List.drop_zero]
      repeat (go_big_quiet_step (first
        | (go_at_call 45; exact Grew.call (hN.out _))
        | (go_at_call 46; exact Grew.call_same (dayErr_any _ _))
        | (go_at_call 36; exact Grew.call_same (unless_any _ _ _))))
      refine wpQuiet_nil ?_
      intro w4 hb4 hbw4 hsz4
      clear hgc hbx
      have hcc := gcell hb4
      have hff := gfrozen hb4
      simp only [World.size_alloc] at hsz4
      have hz2 : w.heap.size + 1 < w4.heap.size := by omega
      have hz3 : w1.heap.size < w4.heap.size := by omega
      first
        | (have hz4 : (Z != 0) = true := by rw [← hZ'.out]; exact hne
           go_wp2_with (first
             | (go_at_call 33; refine (first5 _ _ _ _ _ _).mono ?_; rintro e w' ⟨rfl, rfl⟩))
           refine bodyPost_ret (v := .tuple #[.int .i64 0, .int .i64 Z]) ?_ rfl ⟨?_, ?_⟩
           · simp [results, Tryz.results21, go_sem, hZ'.out]
           · rw [hX'.out, if_neg hz'.out]
           · go_grown)
        | (have e0 := hz'.out
           subst e0
           go_wp2_with (first
             | (go_at_call 33; refine (first5 _ _ _ _ _ _).mono ?_; rintro e w' ⟨rfl, rfl⟩)
             | (go_at_call 48; refine (hT.out _ ?_).mono ?_; (· go_grown); rintro e w5 ⟨rfl, hb5⟩; have hbw5 := via (by go_grown : Below w.heap.size w _) hb5))
           refine bodyPost_ret (v := .tuple #[.int .i64 X, .int .i64 0]) ?_ rfl ⟨rfl, ?_⟩
           · simp [results, Tryz.results21, go_sem]
           · go_grown)
end Go.Proofs

set_option linter.unusedSimpArgs false
set_option linter.unusedVariables false
namespace Go.Proofs
open Go.RowKit
section
variable {P : Program} {ops : Array Oper}
/-- What a region's text must be like: what an operation looks at is written by operations that it waits for, each slot by one operation alone, and all wait for earlier ones. -/
def slotsOk (ops : Array Oper) : Bool :=
  (List.range ops.size).all fun i => match ops[i]? with
  | none => true
  | some o =>
    ((o.looksAt ops).all fun s => (List.range ops.size).all fun j => match ops[j]? with
      | none => true
      | some oj => oj.dst != some s || (decide (j < i) && o.after.any fun e => Region.binds .any e && e.on == j)) &&
    ((List.range ops.size).all fun j => match ops[j]? with
      | none => true
      | some oj => j == i || o.dst.isNone || oj.dst != o.dst) &&
    (o.after.all fun e => !Region.binds .any e || decide (e.on < i))
structure SlotsOk (ops : Array Oper) : Prop where
  look : ∀ (i : Nat) (o : Oper) (s j : Nat) (oj : Oper), ops[i]? = some o → s ∈ o.looksAt ops → ops[j]? = some oj → oj.dst = some s → j < i ∧ ∃ e ∈ o.after, Region.binds .any e = true ∧ e.on = j
  dst : ∀ (i j : Nat) (o oj : Oper) (s : Nat), ops[i]? = some o → ops[j]? = some oj → o.dst = some s → oj.dst = some s → j = i
  after : ∀ (i : Nat) (o : Oper) (e : Edge), ops[i]? = some o → e ∈ o.after → Region.binds .any e = true → e.on < i
theorem lt_of_some {i : Nat} {o : Oper} (h : ops[i]? = some o) : i < ops.size := (Array.getElem?_eq_some_iff.1 h).1
theorem slotsOk_spec (h : slotsOk ops = true) : SlotsOk ops := by
  unfold slotsOk at h
  simp only [List.all_eq_true, List.mem_range] at h
  refine ⟨fun i o s j oj hi hs hj hd => ?_, fun i j o oj s hi hj hd hd' => ?_, fun i o e hi he hb => ?_⟩
  · have h1 := h i (lt_of_some hi)
    simp only [hi, Bool.and_eq_true, List.all_eq_true, List.mem_range] at h1
    have h2 := h1.1.1 s hs j (lt_of_some hj)
    simp only [hj, hd, Bool.or_eq_true, Bool.and_eq_true, decide_eq_true_eq, bne_self_eq_false, Bool.false_eq_true, false_or] at h2
    obtain ⟨h3, h4⟩ := h2
    obtain ⟨e, he, hb⟩ := Array.any_eq_true'.1 h4
    simp only [Bool.and_eq_true, beq_iff_eq] at hb
    exact ⟨h3, e, he, hb⟩
  · have h1 := h i (lt_of_some hi)
    simp only [hi, Bool.and_eq_true, List.all_eq_true, List.mem_range] at h1
    have h2 := h1.1.2 j (lt_of_some hj)
    simpa [hj, hd, hd'] using h2
  · have h1 := h i (lt_of_some hi)
    simp only [hi, Bool.and_eq_true] at h1
    have h2 := Array.all_eq_true_iff_forall_mem.1 h1.2 e he
    simpa [hb] using h2

theorem act_ext {a b : Act} (h1 : a.defers = b.defers) (h2 : ∀ s : Nat, a.tmps[s]? = b.tmps[s]?) : a = b := by
  obtain ⟨t, d⟩ := a
  obtain ⟨t', d'⟩ := b
  dsimp only at h1 h2
  subst h1
  have : t = t' := Array.ext_getElem? h2
  subst this
  rfl
theorem eval_same {a b : Act} {x : Operand} (h : ∀ t : Nat, x = .tmp t → a.tmps[t]? = b.tmps[t]?) : a.eval x = b.eval x := by
  cases x with
  | tmp t =>
    have := h t rfl
    simp [Act.eval, this]
  | _ => rfl
theorem exec_same {o : Oper} {a b : Act} (hsel : ∀ cs b, o.op ≠ .select cs b) (h : ∀ s ∈ o.looksAt ops, a.tmps[s]? = b.tmps[s]?) : execOp a.eval o = execOp b.eval o :=
  execOp_congr o hsel fun x hx => eval_same fun t ht => h t (by
    subst ht
    exact List.mem_append_left _ (List.mem_filterMap.2 ⟨.tmp t, by simpa using hx, rfl⟩))
theorem wanted_same {o : Oper} {a b : Act} (h : ∀ s ∈ o.looksAt ops, a.tmps[s]? = b.tmps[s]?) : Region.wanted o (yielded ops a.tmps) = Region.wanted o (yielded ops b.tmps) := by
  unfold Region.wanted
  cases hg : o.guard with
  | none => rfl
  | some gw =>
    obtain ⟨g, want⟩ := gw
    have hy : yielded ops a.tmps g = yielded ops b.tmps g := by
      unfold yielded
      cases ht : (ops[g]?).bind (·.dst) with
      | none => rfl
      | some t =>
        have := h t (by simp [Oper.looksAt, hg, ht])
        simp [this]
    simp only [hy]
theorem yields_same {C : World → Prop} {o : Oper} {v : Value} {a b : Act} (hsel : ∀ cs b, o.op ≠ .select cs b) (h : ∀ s ∈ o.looksAt ops, a.tmps[s]? = b.tmps[s]?) (hy : YieldsIn P ops C o v a) : YieldsIn P ops C o v b :=
  hy.of_same (exec_same hsel h).symm (wanted_same h).symm
theorem put_get {a : Act} {d : Option Tmp} {v : Value} {s : Nat} (h : d ≠ some s) : (a.put d v).tmps[s]? = a.tmps[s]? := by
  cases d with
  | none => rfl
  | some d =>
    have hne : d ≠ s := fun e => h (by rw [e])
    simp [Act.put, Array.getElem?_setIfInBounds_ne hne]
theorem put_size {a : Act} {d : Option Tmp} {v : Value} : (a.put d v).tmps.size = a.tmps.size := by cases d <;> simp [Act.put]
theorem put_defers {a : Act} {d : Option Tmp} {v : Value} : (a.put d v).defers = a.defers := by cases d <;> rfl
theorem put_at {a : Act} {d : Nat} {v : Value} (h : d < a.tmps.size) : (a.put (some d) v).tmps[d]? = some v := by simp [Act.put, h]
theorem put_out {a : Act} {d : Nat} {v : Value} (h : ¬ d < a.tmps.size) : (a.put (some d) v).tmps[d]? = none := by simp [Act.put]; omega

/-- The walk of the text: what each operation yields in the frame at the end. -/
theorem fin_of_quiet (H : SlotsOk ops) (hsel : ∀ (j : Nat) (o : Oper) cs b, ops[j]? = some o → o.op ≠ .select cs b) {C : World → Prop} {af : Act} : ∀ (l : List Oper) (k : Nat) (a : Act), (∀ j, l[j]? = ops[k + j]?) → wpQuiet P ops C (fun a' => a' = af) l a →
    (∀ i o, k ≤ i → ops[i]? = some o → ∃ v, YieldsIn P ops C o v af ∧ ∀ d, o.dst = some d → d < af.tmps.size → af.tmps[d]? = some v) ∧ a.tmps.size = af.tmps.size ∧ a.defers = af.defers ∧
      ∀ s, (∀ j oj, k ≤ j → ops[j]? = some oj → oj.dst ≠ some s) → a.tmps[s]? = af.tmps[s]?
  | [], k, a, hl, h => by
    have h' : a = af := h
    subst h'
    refine ⟨fun i o hi ho => ?_, rfl, rfl, fun s _ => rfl⟩
    have := hl (i - k)
    rw [show k + (i - k) = i by omega, ho] at this
    simp at this
  | o :: rest, k, a, hl, h => by
    have h0 : ops[k]? = some o := by simpa using (hl 0).symm
    have hq : qOp P ops C k (wpQuiet P ops C (fun a' => a' = af) rest) a := by unfold qOp; simp only [h0]; exact h
    obtain ⟨v, hy, hK⟩ := yieldsIn_of_qOp h0 hq
    obtain ⟨i1, i2, i3, i4⟩ := fin_of_quiet H hsel rest (k + 1) (a.put o.dst v) (fun j => by have := hl (j + 1); rw [List.getElem?_cons_succ] at this; rw [this]; congr 1; omega) hK
    have hag : ∀ s ∈ o.looksAt ops, a.tmps[s]? = af.tmps[s]? := fun s hs => by
      have hw : ∀ j oj, k ≤ j → ops[j]? = some oj → oj.dst ≠ some s := fun j oj hj ho hd => by
        have := (H.look k o s j oj h0 hs ho hd).1
        omega
      rw [← i4 s (fun j oj hj => hw j oj (by omega)), put_get (hw k o (Nat.le_refl _) h0)]
    refine ⟨fun i o' hi ho => ?_, by rw [← i2, put_size], by rw [← i3, put_defers], fun s hs => ?_⟩
    · by_cases hik : i = k
      · subst hik
        obtain rfl : o = o' := Option.some.inj (h0.symm.trans ho)
        refine ⟨v, yields_same (hsel _ _ · · h0) hag hy, fun d hd hlt => ?_⟩
        rw [← i4 d (fun j oj hj hoj hdj => by have := H.dst i j o oj d h0 hoj hd hdj; omega), hd]
        exact put_at (by rw [← put_size (a := a) (d := o.dst) (v := v), i2]; exact hlt)
      · exact i1 i o' (by omega) ho
    · rw [← i4 s (fun j oj hj => hs j oj (by omega)), put_get (hs k o (Nat.le_refl _) h0)]

/-! How many have not come up. -/
def unlisted (n : Nat) (listed : Array Bool) : Nat := ((List.range n).filter fun j => !listed.getD j true).length
theorem filter_less {α : Type} {p q : α → Bool} : ∀ (l : List α), (∀ x, q x = true → p x = true) → (l.filter q).length ≤ (l.filter p).length
  | [], _ => Nat.le_refl _
  | x :: l, h => by
    have ih := filter_less l h
    simp only [List.filter_cons]
    by_cases hq : q x = true
    · rw [if_pos hq, if_pos (h x hq)]; simpa using ih
    · rw [if_neg hq]
      split
      · simp only [List.length_cons]; omega
      · exact ih
theorem filter_fewer {α : Type} {p q : α → Bool} : ∀ (l : List α), (∀ x, q x = true → p x = true) → (∃ x ∈ l, p x = true ∧ q x = false) → (l.filter q).length < (l.filter p).length
  | [], _, h => by obtain ⟨x, hx, _⟩ := h; cases hx
  | y :: l, h, hx => by
    obtain ⟨x, hm, hp, hq⟩ := hx
    simp only [List.filter_cons]
    rcases List.mem_cons.1 hm with rfl | hm
    · rw [if_neg (by rw [hq]; decide), if_pos hp]
      have := filter_less l h
      simp only [List.length_cons]; omega
    · have ih := filter_fewer l h ⟨x, hm, hp, hq⟩
      by_cases hqy : q y = true
      · rw [if_pos hqy, if_pos (h y hqy)]; simpa using ih
      · rw [if_neg hqy]
        split
        · simp only [List.length_cons]; omega
        · exact ih
theorem unlisted_set {n i : Nat} {listed : Array Bool} (hi : i < n) (h : listed.getD i true = false) : unlisted n (listed.setIfInBounds i true) < unlisted n listed := by
  refine filter_fewer _ (fun j hj => ?_) ⟨i, List.mem_range.2 hi, by simp [h], ?_⟩
  · by_cases hij : i = j
    · subst hij; simp [h]
    · rw [getD_set_ne true hij] at hj; exact hj
  · have : (listed.setIfInBounds i true).getD i true = true := by
      simp only [Array.getD_eq_getD_getElem?, Array.getElem?_setIfInBounds]
      by_cases hs : i < listed.size <;> simp [hs]
    rw [this]; rfl
end
end Go.Proofs
