import Derived.Test.YtceiinlmblgdoaaGreatDoorY
import Derived.Test.YtceiinlmblgdoaaGreatDoorX
set_option linter.unusedSimpArgs false
set_option linter.unusedVariables false
namespace Go.Proofs
open Go.RowKit

theorem datedE_zero {α : Type} {err : α → Int} {day : α → Int} : ∀ (l : List α) (b : Option Int) (k : Nat), (datedE err day l b k).2 = 0 → ∀ x ∈ l, err x = 0
  | [], _, _, _, _, hx => by cases hx
  | y :: l, b, k, h, x, hx => by
    unfold datedE at h
    by_cases hz : firstE [err y, unl (okDay b (day y)) 9] = 0
    · rw [if_pos hz] at h
      rcases List.mem_cons.1 hx with rfl | hx
      · exact (firstE2_zero hz).1
      · exact datedE_zero l _ _ h x hx
    · rw [if_neg hz] at h
      exact (hz h).elim
theorem datedE_up {α : Type} {err : α → Int} {day : α → Int} : ∀ (l : List α) (b : Option Int) (k : Nat), (datedE err day l b k).2 = 0 → ∀ (i : Nat) (x y : α), l[i]? = some x → l[i + 1]? = some y → day x ≤ day y
  | z :: t :: l, b, k, h, i, x, y, hx, hy => by
    unfold datedE at h
    by_cases hz : firstE [err z, unl (okDay b (day z)) 9] = 0
    · rw [if_pos hz] at h
      cases i with
      | zero =>
        simp only [List.getElem?_cons_zero, Option.some.injEq] at hx
        simp only [Nat.zero_add, List.getElem?_cons_succ, List.getElem?_cons_zero, Option.some.injEq] at hy
        subst hx hy
        unfold datedE at h
        by_cases hz2 : firstE [err t, unl (okDay (some (day z)) (day t)) 9] = 0
        · have := unl_zero (by decide) (firstE2_zero hz2).2
          simpa [okDay] using this
        · rw [if_neg hz2] at h
          exact (hz2 h).elim
      | succ i =>
        simp only [List.getElem?_cons_succ] at hx hy
        exact datedE_up (t :: l) _ _ h i x y hx hy
    · rw [if_neg hz] at h
      exact (hz h).elim
  | [z], b, k, h, i, x, y, hx, hy => by simp at hy
theorem firstE3_zero {a b c : Int} (h : firstE [a, b, c] = 0) : a = 0 ∧ b = 0 ∧ c = 0 := by
  simp only [firstE] at h
  by_cases ha : a = 0 <;> by_cases hb : b = 0 <;> by_cases hc : c = 0 <;> simp [ha, hb, hc] at h ⊢
theorem rdErr_zero {x : Rd} (h : rdErr x = 0) : 0 ≤ x.d ∧ x.d ≤ 100000 ∧ 0 ≤ x.lo ∧ x.lo ≤ 100000 ∧ 0 ≤ x.hi ∧ x.hi ≤ 100000 := by
  unfold rdErr gaugingE at h
  obtain ⟨_, h2, _⟩ := firstE3_zero h
  have := unl_zero (by decide) h2
  simp only [Bool.and_eq_true] at this
  have a := within_true this.1.1
  have b := within_true this.1.2
  have c := within_true this.2
  omega
theorem moveE_zero {m : Mv} (h : moveE m = 0) : 0 ≤ m.v ∧ m.v ≤ 100000 := by
  unfold moveE firstE at h
  split at h
  · obtain ⟨_, _, h3⟩ := firstE3_zero h
    exact within_true (unl_zero (by decide) h3)
  · rename_i hn; exact (hn h).elim
theorem checkB_zero {l0 l1 : Int} {rs : List Rd} {ms : List Mv} (h : (checkB l0 l1 rs ms).2 = 0) :
    bookE l0 l1 rs.length ms.length = 0 ∧ (datedE rdErr Rd.d rs none 0).2 = 0 ∧ (datedE moveE Mv.d ms none 0).2 = 0 := by
  unfold checkB at h
  by_cases h1 : bookE l0 l1 rs.length ms.length = 0
  · rw [if_pos h1] at h
    by_cases h2 : (datedE rdErr Rd.d rs none 0).2 = 0
    · rw [if_pos h2] at h
      by_cases h3 : (datedE moveE Mv.d ms none 0).2 = 0
      · exact ⟨h1, h2, h3⟩
      · rw [if_neg h3] at h; exact (h3 h).elim
    · rw [if_neg h2] at h; exact (h2 h).elim
  · rw [if_neg h1] at h; exact (h1 h).elim
theorem right_of {l0 l1 : Int} {rs : List Rd} {ms : List Mv} (h : (checkB l0 l1 rs ms).2 = 0) : Right l0 l1 rs ms := by
  obtain ⟨h1, h2, h3⟩ := checkB_zero h
  obtain ⟨a, b, c, d, e⟩ := bookE_zero h1
  exact ⟨within_true a, within_true b, d, e, fun x hx => rdErr_zero (datedE_zero _ _ _ h2 x hx), fun m hm => moveE_zero (datedE_zero _ _ _ h3 m hm)⟩

def volAtE (l0 l1 : Int) (rs : List Rd) (ms : List Mv) (cask : ByteArray) (day : Int) : Int := firstE [(checkB l0 l1 rs ms).2, unl (nameB cask.data.toList) 4, unl (within day 0 100000) 2]
def volAtV (l0 l1 : Int) (rs : List Rd) (ms : List Mv) (cask : ByteArray) (day : Int) : (Int × Int) × Int :=
  if volAtE l0 l1 rs ms cask day = 0 then atV l0 l1 rs ms cask day else ((0, 0), volAtE l0 l1 rs ms cask day)

set_option maxRecDepth 100000 in
set_option maxHeartbeats 1000000 in
theorem volumeAt_any (l0 l1 : Int) (A A2 : Option Addr) (rs : List Rd) (ms : List Mv) (c c2 : Nat) (cask : ByteArray) (day : Int) (w : World)
    (hs : ∀ x ∈ rs, x.c.size ≤ 9223372036854775807) (hat : At 4 Rd.cs w A rs)
    (hs2 : ∀ x ∈ ms, x.f.size ≤ 9223372036854775807 ∧ x.t.size ≤ 9223372036854775807) (hat2 : At 4 Mv.cs w A2 ms) (hsc : cask.size ≤ 9223372036854775807) :
    Calls Tryz.prog 11 #[.agg #[.int .i64 l0, .int .i64 l1, .slice A rs.length c, .slice A2 ms.length c2], .string cask, .int .i64 day] w fun e w' =>
      e = .returned (.tuple #[.agg #[.int .i64 (volAtV l0 l1 rs ms cask day).1.1, .int .i64 (volAtV l0 l1 rs ms cask day).1.2], .int .i64 (volAtV l0 l1 rs ms cask day).2]) ∧ Below w.heap.size w w' := by
  have hO := Lib.hid fun W hb => openBook_any l0 l1 A A2 rs ms c c2 W hs (At.below hat hb) hs2 (At.below hat2 hb)
  have hN := Lib.hid fun W => nameErr_any cask W hsc
  unfold volAtV
  obtain ⟨Z, hZ⟩ : ∃ Z, volAtE l0 l1 rs ms cask day = Z := ⟨_, rfl⟩
  rw [hZ]
  have hR : Hid (Z = 0 → Right l0 l1 rs ms ∧ 0 ≤ day ∧ day ≤ 100000) := fun hz => by
    rw [hz] at hZ
    obtain ⟨h1, _, h2⟩ := firstE3_zero hZ
    exact ⟨right_of h1, within_true (unl_zero (by decide) h2)⟩
  have hat' := Lib.hid hat
  have hat2' := Lib.hid hat2
  unfold volAtE at hZ
  generalize (checkB l0 l1 rs ms).2 = E at *
  generalize unl (nameB cask.data.toList) 4 = F at *
  clear hat hat2
  by_cases hz : Z = 0
  · rw [if_pos hz]
    obtain ⟨hR1, hd1, hd2⟩ := hR.out hz
    have hT := Lib.hid fun W hb => at_any l0 l1 A A2 rs ms c c2 cask day W hR1 (At.below hat'.out hb) (At.below hat2'.out hb) hd1 hd2
    rw [hz] at hZ
    subst hz
    generalize atV l0 l1 rs ms cask day = T at *
    obtain ⟨⟨T1, T2⟩, T3⟩ := T
    dsimp only at *
    have hne : (firstE [E, F, unl (within day 0 100000) 2] != 0) = false := by simp [hZ]
    clear hR1 hR hZ
    go_enter Tryz.func11, Tryz.ntmps11
    go_wp2_with (first
      | (go_at_call 31; refine (hO.out _ ?_).mono ?_; (· go_grown); rintro e w1 ⟨rfl, hb⟩; have hcc := gcell hb; have hff := gfrozen hb; have hbw := via (by go_grown : Below w.heap.size w _) hb; have hz0 : w.heap.size < w1.heap.size := (by have := hb.size; simp at this; omega); have hz1 : w.heap.size + 1 < w1.heap.size := (by have := hb.size; simp at this; omega))
      | (go_at_call 33; refine (hN.out _).mono ?_; rintro e w2 ⟨rfl, hb2⟩; have hcc2 := gcell hb2; have hff2 := gfrozen hb2; have hbw2 := via (by go_grown : Below w.heap.size w _) hb2; have hz2 : w1.heap.size < w2.heap.size := (by have := hb2.size; simp at this; omega); have hz3 : w.heap.size < w2.heap.size := (by omega); have hz4 : w.heap.size + 1 < w2.heap.size := (by omega))
      | (go_at_call 34; refine (dayErr_any _ _).mono ?_; rintro e w' ⟨rfl, rfl⟩)
      | (go_at_call 32; refine (first3 _ _ _ _).mono ?_; rintro e w' ⟨rfl, rfl⟩)
      | (go_at_call 35; refine (hT.out _ ?_).mono ?_; (· go_grown); rintro e w3 ⟨rfl, hb3⟩; have hcc3 := gcell hb3; have hff3 := gfrozen hb3; have hbw3 := via (by go_grown : Below w.heap.size w _) hb3; have hz5 : w.heap.size + 1 < w3.heap.size := (by have := hb3.size; simp at this; omega)))
    refine bodyPost_ret (v := .tuple #[.agg #[.int .i64 T1, .int .i64 T2], .int .i64 T3]) ?_ rfl ⟨rfl, ?_⟩
    · simp [results, Tryz.results11, go_sem, hcc, hff, hcc2, hff2, hcc3, hff3, hz0, hz1, hz2, hz3, hz4, hz5]
    · go_grown
  · rw [if_neg hz]
    have hne : (firstE [E, F, unl (within day 0 100000) 2] != 0) = true := by simp [hZ, hz]
    have hZ' := Lib.hid hZ
    clear hZ hR hz
    go_enter Tryz.func11, Tryz.ntmps11
    go_wp2_with (first
      | (go_at_call 31; refine (hO.out _ ?_).mono ?_; (· go_grown); rintro e w1 ⟨rfl, hb⟩; have hcc := gcell hb; have hff := gfrozen hb; have hbw := via (by go_grown : Below w.heap.size w _) hb; have hz0 : w.heap.size < w1.heap.size := (by have := hb.size; simp at this; omega); have hz1 : w.heap.size + 1 < w1.heap.size := (by have := hb.size; simp at this; omega))
      | (go_at_call 33; refine (hN.out _).mono ?_; rintro e w2 ⟨rfl, hb2⟩; have hcc2 := gcell hb2; have hff2 := gfrozen hb2; have hbw2 := via (by go_grown : Below w.heap.size w _) hb2; have hz2 : w1.heap.size < w2.heap.size := (by have := hb2.size; simp at this; omega); have hz3 : w.heap.size < w2.heap.size := (by omega); have hz4 : w.heap.size + 1 < w2.heap.size := (by omega))
      | (go_at_call 34; refine (dayErr_any _ _).mono ?_; rintro e w' ⟨rfl, rfl⟩)
      | (go_at_call 32; refine (first3 _ _ _ _).mono ?_; rintro e w' ⟨rfl, rfl⟩))
    refine bodyPost_ret (v := .tuple #[.agg #[.int .i64 0, .int .i64 0], .int .i64 Z]) ?_ rfl ⟨rfl, ?_⟩
    · simp [results, Tryz.results11, go_sem, hcc, hff, hcc2, hff2, hz0, hz1, hz2, hz3, hz4, hZ'.out]
    · go_grown

def netOfE (l0 l1 : Int) (rs : List Rd) (ms : List Mv) (cask : ByteArray) (a b : Int) : Int :=
  firstE [(checkB l0 l1 rs ms).2, unl (nameB cask.data.toList) 4, unl (within a 0 100000) 2, unl (within b 0 100000) 2, unl (decide (a ≤ b)) 9]
def netOfV (l0 l1 : Int) (rs : List Rd) (ms : List Mv) (cask : ByteArray) (a b : Int) : Int :=
  if netOfE l0 l1 rs ms cask a b = 0 then netL ms cask a b else 0
theorem firstE5_zero {a b c d e : Int} (h : firstE [a, b, c, d, e] = 0) : a = 0 ∧ b = 0 ∧ c = 0 ∧ d = 0 ∧ e = 0 := by
  simp only [firstE] at h
  by_cases ha : a = 0 <;> by_cases hb : b = 0 <;> by_cases hc : c = 0 <;> by_cases hd : d = 0 <;> by_cases he : e = 0 <;> simp [ha, hb, hc, hd, he] at h ⊢

set_option maxRecDepth 100000 in
set_option maxHeartbeats 1000000 in
theorem netOf_any (l0 l1 : Int) (A A2 : Option Addr) (rs : List Rd) (ms : List Mv) (c c2 : Nat) (cask : ByteArray) (a b : Int) (w : World)
    (hs : ∀ x ∈ rs, x.c.size ≤ 9223372036854775807) (hat : At 4 Rd.cs w A rs)
    (hs2 : ∀ x ∈ ms, x.f.size ≤ 9223372036854775807 ∧ x.t.size ≤ 9223372036854775807) (hat2 : At 4 Mv.cs w A2 ms) (hsc : cask.size ≤ 9223372036854775807) :
    Calls Tryz.prog 13 #[.agg #[.int .i64 l0, .int .i64 l1, .slice A rs.length c, .slice A2 ms.length c2], .string cask, .agg #[.int .i64 a, .int .i64 b]] w fun e w' =>
      e = .returned (.tuple #[.int .i64 (netOfV l0 l1 rs ms cask a b), .int .i64 (netOfE l0 l1 rs ms cask a b)]) ∧ Below w.heap.size w w' := by
  have hO := Lib.hid fun W hb => openBook_any l0 l1 A A2 rs ms c c2 W hs (At.below hat hb) hs2 (At.below hat2 hb)
  have hN := Lib.hid fun W => nameErr_any cask W hsc
  unfold netOfV
  obtain ⟨Z, hZ⟩ : ∃ Z, netOfE l0 l1 rs ms cask a b = Z := ⟨_, rfl⟩
  rw [hZ]
  have hR : Hid (Z = 0 → Right l0 l1 rs ms) := fun hz => by
    rw [hz] at hZ
    exact right_of (firstE5_zero hZ).1
  have hat' := Lib.hid hat
  have hat2' := Lib.hid hat2
  unfold netOfE at hZ
  generalize (checkB l0 l1 rs ms).2 = E at *
  generalize unl (nameB cask.data.toList) 4 = F at *
  clear hat hat2
  obtain ⟨X, hX, hg⟩ : ∃ X, X = (if Z = 0 then netL ms cask a b else 0) ∧ (Z = 0 → Hid (∀ W, Below w.heap.size w W → Calls Tryz.prog 37 #[.agg #[.int .i64 l0, .int .i64 l1, .slice A rs.length c, .slice A2 ms.length c2], .string cask, .int .i64 a, .int .i64 b] W fun e w' => e = .returned (.int .i64 X) ∧ Below W.heap.size W w')) := by
    by_cases hz : Z = 0
    · refine ⟨_, rfl, fun _ => fun W hb => ?_⟩
      rw [if_pos hz]
      have hr := hR.out hz
      exact net_any l0 l1 _ A2 ms c2 cask a b W hr.mn hr.mv (At.below hat2'.out hb)
    · exact ⟨_, rfl, fun h => (hz h).elim⟩
  rw [← hX]
  clear hR
  by_cases hab : a ≤ b
  all_goals
    first | have hd : decide (a ≤ b) = true := decide_eq_true hab | have hd : decide (a ≤ b) = false := decide_eq_false hab
    rw [hd] at hZ
    clear hab
    by_cases hz : Z = 0
    all_goals
      first
        | (have hT := hg hz
           have hne : (Z != 0) = false := by simp [hz])
        | (have hX0 : X = 0 := by rw [hX, if_neg hz]
           have hne : (Z != 0) = true := by simp [hz])
      have hZ' := Lib.hid hZ
      have hX' := Lib.hid hX
      have hz' := Lib.hid hz
      clear hg hX hz
      first | clear hX0 | skip
      rw [← hZ] at hne
      clear hZ
      go_enter Tryz.func13, Tryz.ntmps13
      go_wp2_with (first
        | (go_at_call 31; refine (hO.out _ ?_).mono ?_; (· go_grown); rintro e w1 ⟨rfl, hb⟩; have hcc := gcell hb; have hff := gfrozen hb; have hbw := via (by go_grown : Below w.heap.size w _) hb; have hz0 : w.heap.size < w1.heap.size := (by have := hb.size; simp at this; omega); have hz1 : w.heap.size + 1 < w1.heap.size := (by have := hb.size; simp at this; omega)))
      have k0 : w1.cell? ⟨w.heap.size + 1, 0, none⟩ = some (.int .i64 a) := by rw [hcc _ _ (by simp)]; simp [go_sem]
      have k1 : w1.cell? ⟨w.heap.size + 1, 1, none⟩ = some (.int .i64 b) := by rw [hcc _ _ (by simp)]; simp [go_sem]
      clear hcc hff hb
      refine region_in w 15 (by kernel_rfl) (by kernel_rfl) (by go_grown) ?_
      intro hgc hbx
      simp only [List.take_succ_cons, List.take_zero, List.drop_succ_cons, List.drop_zero]
      repeat (go_big_quiet_step (first
        | (go_at_call 33; exact Grew.call (hN.out _))
        | (go_at_call 34; exact Grew.call_same (dayErr_any _ _))
        | (go_at_call 36; exact Grew.call_same (unless_any _ _ _))))
      refine wpQuiet_nil ?_
      intro w4 hb4 hbw4 hsz4
      clear hgc hbx
      have hcc := gcell hb4
      have hff := gfrozen hb4
      simp only [World.size_alloc] at hsz4
      have hz2 : w.heap.size + 1 < w4.heap.size := by omega
      have hz3 : w1.heap.size < w4.heap.size := by omega
      first
        | (have hz4 : (Z != 0) = true := by rw [← hZ'.out]; exact hne
           go_wp2_with (first
             | (go_at_call 32; refine (first5 _ _ _ _ _ _).mono ?_; rintro e w' ⟨rfl, rfl⟩))
           refine bodyPost_ret (v := .tuple #[.int .i64 0, .int .i64 Z]) ?_ rfl ⟨?_, ?_⟩
           · simp [results, Tryz.results13, go_sem, hZ'.out]
           · rw [hX'.out, if_neg hz'.out]
           · go_grown)
        | (have e0 := hz'.out
           subst e0
           go_wp2_with (first
             | (go_at_call 32; refine (first5 _ _ _ _ _ _).mono ?_; rintro e w' ⟨rfl, rfl⟩)
             | (go_at_call 37; refine (hT.out _ ?_).mono ?_; (· go_grown); rintro e w5 ⟨rfl, hb5⟩; have hbw5 := via (by go_grown : Below w.heap.size w _) hb5))
           refine bodyPost_ret (v := .tuple #[.int .i64 X, .int .i64 0]) ?_ rfl ⟨rfl, ?_⟩
           · simp [results, Tryz.results13, go_sem]
           · go_grown)
end Go.Proofs
