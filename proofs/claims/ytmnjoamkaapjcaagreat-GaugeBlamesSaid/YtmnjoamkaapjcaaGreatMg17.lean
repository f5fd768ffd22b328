import Derived.Test.YtmnjoamkaapjcaaGreatMg16
import Derived.Test.YtmnjoamkaapjcaaGreatMg6
set_option linter.unusedSimpArgs false
set_option linter.unusedVariables false
namespace Go.Proofs
open Go.RowKit

structure St where
  at_ : Int
  inn : Int
  out : Int
def St.cs (x : St) : List Value := [.int .i64 x.at_, .int .i64 x.inn, .int .i64 x.out]
/-- The error of a station, given the one before. -/
def stE (bung : Int) (prev : Option Int) (s : St) : Int :=
  firstE [unl (within s.at_ 0 3000 && within s.inn 10 bung && within s.out 10 bung) 2, unl (decide (s.inn ≤ s.out) && (match prev with | none => true | some p => decide (p < s.at_))) 9]
def stationsE (bung : Int) : List St → Option Int → Nat → Int × Int
  | [], _, _ => (0, 0)
  | s :: l, prev, k => if stE bung prev s = 0 then stationsE bung l (some s.at_) (k + 1) else (k, stE bung prev s)
def caskHeadE (name : List UInt8) (bung : Int) (n : Nat) : Int :=
  firstE [unl (nameB name) 4, unl (within bung 10 800) 2, unl (decide (1 < (n : Int))) 10, unl (decide ((n : Int) ≤ 12)) 8]
def checkC (name : List UInt8) (bung : Int) (ss : List St) : Int × Int :=
  if caskHeadE name bung ss.length = 0 then stationsE bung ss none 0 else (0, caskHeadE name bung ss.length)

set_option maxRecDepth 100000 in
set_option maxHeartbeats 1000000 in
theorem checkCask_bad (s : ByteArray) (bung : Int) (A : Option Addr) (n c : Nat) (w : World) (hs : s.size ≤ 9223372036854775807) (hbad : caskHeadE s.data.toList bung n ≠ 0) :
    Calls Tryz.prog 71 #[.agg #[.string s, .int .i64 bung, .slice A n c]] w fun e w' =>
      e = .returned (.tuple #[.int .i64 0, .int .i64 (caskHeadE s.data.toList bung n)]) ∧ Below w.heap.size w w' := by
  unfold caskHeadE at *
  have hzz := bne_iff_ne.2 hbad
  have hbad' := Lib.hid hbad
  clear hbad
  go_enter Tryz.func71, Tryz.ntmps71
  go_wp2_with fail
  refine region_in w 14 (by kernel_rfl) (by kernel_rfl) (by go_grown) ?_
  intro hgc hbx
  simp only [List.take_succ_cons, List.take_zero, List.drop_succ_cons, List.drop_zero]
  repeat (go_big_quiet_step (first
    | (go_at_call 67; exact Grew.call (isName_any _ _ hs))
    | (go_at_call 42; exact Grew.call_same (isRadius_any _ _ _))
    | (go_at_call 36; exact Grew.call_same (unless_any _ _ _))))
  refine wpQuiet_nil ?_
  intro w1 hb hbw hsz
  clear hgc hbx
  have hcc := gcell hb
  have hff := gfrozen hb
  simp only [World.size_alloc] at hsz
  have hz0 : w.heap.size < w1.heap.size := by omega
  go_wp2_with (go_at_call 33; refine (first4 _ _ _ _ _).mono ?_; rintro e w' ⟨rfl, rfl⟩)
  go_ret2
  exact ⟨rfl, via_alloc hbw _⟩

def CAt (bung : Int) (l : List St) (k : Nat) : Prop := stationsE bung l none 0 = stationsE bung (l.drop k) (if k = 0 then none else (l[k - 1]?).map St.at_) k
theorem cask_go {bung : Int} {l : List St} {k : Nat} {x : St} {p : Option Int} (h : CAt bung l k) (hx : Hid (l[k]? = some x)) (hp : Hid ((if k = 0 then none else (l[k - 1]?).map St.at_) = p)) (hz : Hid (stE bung p x = 0)) : CAt bung l (k + 1) := by
  unfold CAt at *
  obtain ⟨hi, hx'⟩ := List.getElem?_eq_some_iff.1 hx.out
  rw [h, List.drop_eq_getElem_cons hi, hx', stationsE, hp.out, if_pos hz.out]
  congr 1
  rw [if_neg (by omega), Nat.add_sub_cancel, hx.out]; rfl
theorem cask_stop {bung : Int} {l : List St} {k : Nat} {x : St} {p : Option Int} (h : CAt bung l k) (hx : Hid (l[k]? = some x)) (hp : Hid ((if k = 0 then none else (l[k - 1]?).map St.at_) = p)) (hz : Hid (¬ stE bung p x = 0)) :
    stationsE bung l none 0 = ((k : Int), stE bung p x) := by
  unfold CAt at *
  obtain ⟨hi, hx'⟩ := List.getElem?_eq_some_iff.1 hx.out
  rw [h, List.drop_eq_getElem_cons hi, hx', stationsE, hp.out, if_neg hz.out]
theorem cask_end {bung : Int} {l : List St} {k : Nat} (h : CAt bung l k) (hk : l.length ≤ k) : stationsE bung l none 0 = (0, 0) := by
  unfold CAt at h
  rw [h, List.drop_of_length_le hk]; rfl
theorem caskHeadE_zero {name : List UInt8} {bung : Int} {n : Nat} (h : caskHeadE name bung n = 0) : nameB name = true ∧ within bung 10 800 = true ∧ 1 < n ∧ n ≤ 12 := by
  unfold caskHeadE firstE unl at h
  by_cases h1 : nameB name = true <;> by_cases h2 : within bung 10 800 = true <;> by_cases h3 : 1 < (n : Int) <;> by_cases h4 : (n : Int) ≤ 12 <;> simp [h1, h2, h3, h4, firstE] at h
  exact ⟨h1, h2, by omega, by omega⟩

set_option maxRecDepth 100000 in
set_option maxHeartbeats 2000000 in
theorem checkCask_good (s : ByteArray) (bung : Int) (A : Option Addr) (ss : List St) (c : Nat) (w : World) (hs : s.size ≤ 9223372036854775807) (hok : caskHeadE s.data.toList bung ss.length = 0) (hat : At 3 St.cs w A ss) :
    Calls Tryz.prog 71 #[.agg #[.string s, .int .i64 bung, .slice A ss.length c]] w fun e w' =>
      e = .returned (.tuple #[.int .i64 (stationsE bung ss none 0).1, .int .i64 (stationsE bung ss none 0).2]) ∧ Below w.heap.size w w' := by
  obtain ⟨hnm, hbg, hn1, hn2⟩ := caskHeadE_zero hok
  obtain ⟨n, hn⟩ : ∃ n, ss.length = n := ⟨_, rfl⟩
  have hn' := Lib.hid hn
  rw [hn] at hn1 hn2 ⊢
  clear hn hok
  have h1' : (1 : Int) < (n : Int) := by omega
  have h2' : (n : Int) ≤ 12 := by omega
  have hN := fun W => isName_any s W hs
  rw [hnm] at hN
  have hN' := Lib.hid hN
  have hz : (firstE [unl true 4, unl true 2, unl true 10, unl true 8] != 0) = false := by decide
  clear hN hnm
  go_enter Tryz.func71, Tryz.ntmps71
  go_wp2_with fail
  refine region_in w 14 (by kernel_rfl) (by kernel_rfl) (by go_grown) ?_
  intro hgc hbx
  simp only [List.take_succ_cons, List.take_zero, List.drop_succ_cons, List.drop_zero]
  repeat (go_big_quiet_step (first
    | (go_at_call 67; exact Grew.call (hN'.out _))
    | (go_at_call 42; exact Grew.call_same (isRadius_any _ _ _))
    | (go_at_call 36; exact Grew.call_same (unless_any _ _ _))))
  refine wpQuiet_nil ?_
  intro w1 hb hbw hsz
  clear hgc hbx
  have hcc := gcell hb
  simp only [World.size_alloc] at hsz
  have hz0 : w.heap.size < w1.heap.size := by omega
  go_wp2_with (go_at_call 33; refine (first4 _ _ _ _ _).mono ?_; rintro e w' ⟨rfl, rfl⟩)
  have hcc1 : ∀ o, (w1.alloc (.cells #[.int .i64 (unl true 4), .int .i64 (unl true 2), .int .i64 (unl true 10), .int .i64 (unl true 8)] 31)).cell? ⟨w.heap.size, o, none⟩ = (w.alloc (.cells #[.string s, .int .i64 bung, .slice A n c] 59)).cell? ⟨w.heap.size, o, none⟩ := fun o => by
    rw [World.cell?_alloc_past _ _ _ hz0]; exact hcc _ _ (by simp)
  have hbox : ∀ o, (w.alloc (.cells #[.string s, .int .i64 bung, .slice A n c] 59)).cell? ⟨w.heap.size, o, none⟩ = #[Value.string s, .int .i64 bung, .slice A n c][o]? := fun o => World.cell?_alloc_at _ _ _ _ rfl
  have hbw2 := via_alloc hbw (.cells #[.int .i64 (unl true 4), .int .i64 (unl true 2), .int .i64 (unl true 10), .int .i64 (unl true 8)] 31)
  have hz2 : w.heap.size < (w1.alloc (.cells #[.int .i64 (unl true 4), .int .i64 (unl true 2), .int .i64 (unl true 10), .int .i64 (unl true 8)] 31)).heap.size := by simp; omega
  generalize w1.alloc (.cells #[.int .i64 (unl true 4), .int .i64 (unl true 2), .int .i64 (unl true 10), .int .i64 (unl true 8)] 31) = w2 at *
  have q0 : w2.cell? ⟨w.heap.size, 0, none⟩ = some (.string s) := by rw [hcc1, hbox]; rfl
  have q1 : w2.cell? ⟨w.heap.size, 1, none⟩ = some (.int .i64 bung) := by rw [hcc1, hbox]; rfl
  have q2 : w2.cell? ⟨w.heap.size, 2, none⟩ = some (.slice A n c) := by rw [hcc1, hbox]; rfl
  clear hcc1 hbox hcc hb hbw hsz hz0 hz hN'
  have hbg' := within_true hbg
  obtain ⟨hbg1, hbg2⟩ := hbg'
  clear hbg
  go_loopw [36] (fun i wr => ∃ k : Nat, k ≤ n ∧ i = .int .i64 k ∧ CAt bung ss k ∧ Below w.heap.size w wr ∧ Below w2.heap.size w2 wr) (fun i _ => n - (intOf i).toNat)
  case atStart => exact ⟨0, Nat.zero_le _, rfl, rfl, hbw2, Below.refl _ _⟩
  case round =>
    obtain ⟨k, hk, rfl, hct, hb, hb2⟩ := hrel
    have r0 := (hb2.cell (p := ⟨w.heap.size, 0, none⟩) hz2).trans q0
    have r1 := (hb2.cell (p := ⟨w.heap.size, 1, none⟩) hz2).trans q1
    have r2 := (hb2.cell (p := ⟨w.heap.size, 2, none⟩) hz2).trans q2
    clear q0 q1 q2
    have hwr : w.heap.size < wr.heap.size := by have := hb2.size; omega
    by_cases hlt : k < n
    · have hkl : k < ss.length := by rw [hn'.out]; exact hlt
      have hx : ss[k]? = some ss[k] := List.getElem?_eq_getElem hkl
      obtain ⟨m, hme⟩ : ∃ m, ss[k] = m := ⟨_, rfl⟩
      rw [hme] at hx
      have hatr := hat.below hb
      obtain ⟨b, o, hA, hbl, hc⟩ := hatr k m hx
      subst hA
      have hat' := Lib.hid hatr
      clear hatr hat hme
      obtain ⟨sa, si, so⟩ := m
      have c0 := hc 0 _ rfl
      have c1 := hc 1 _ rfl
      have c2 := hc 2 _ rfl
      dsimp only at c0 c1 c2
      simp only [Nat.add_zero] at c0
      clear hc
      have hx' := Lib.hid hx
      clear hx
      obtain ⟨b1, h1⟩ : ∃ b, within sa 0 3000 = b := ⟨_, rfl⟩
      obtain ⟨b2, h2⟩ : ∃ b, within si 10 bung = b := ⟨_, rfl⟩
      obtain ⟨b3, h3⟩ : ∃ b, within so 10 bung = b := ⟨_, rfl⟩
      have hcase : ∀ b1 b2 b3 : Bool, b1 = false ∨ (b1 = true ∧ b2 = false) ∨ (b1 = true ∧ b2 = true ∧ b3 = false) ∨ (b1 = true ∧ b2 = true ∧ b3 = true) := by decide
      by_cases h0 : k = 0
      · have hk0 : ((k : Int) == 0) = true := by simp [h0]
        have hp : Hid ((if k = 0 then none else (ss[k - 1]?).map St.at_) = none) := if_pos h0
        clear h0
        by_cases hio : si ≤ so
        all_goals
          first | have hd : decide (si ≤ so) = true := decide_eq_true hio | have hd : decide (si ≤ so) = false := decide_eq_false hio
          rcases hcase b1 b2 b3 with rfl | ⟨rfl, rfl⟩ | ⟨rfl, rfl, rfl⟩ | ⟨rfl, rfl, rfl⟩
          all_goals
            obtain ⟨E, hE⟩ : ∃ E, stE bung none ⟨sa, si, so⟩ = E := ⟨_, rfl⟩
            have hE' := Lib.hid hE
            unfold stE at hE
            simp only [h1, h2, h3, hio, Bool.and_true, Bool.and_false, Bool.true_and, Bool.and_self, Bool.false_and, decide_true, decide_false] at hE
            have hE2 := Lib.hid hE
            clear hE
            go_wp2_with (first
              | (go_at_call 42; refine (isRadius_any _ _ _).mono ?_; rintro e w' ⟨rfl, rfl⟩)
              | (go_at_call 43; refine (within_any _ _ _ _).mono ?_; rintro e w' ⟨rfl, rfl⟩))
            refine region_all w (by kernel_rfl) (by kernel_rfl) (by go_grown) ?_
            intro hgc hbx
            repeat (go_big_quiet_step (fail))
            refine wpQuiet_nil ?_
            intro w3 hb3 hbw3 hsz3
            clear hgc hbx
            have hcc := gcell hb3
            simp only [World.size_alloc] at hsz3
            have hy0 : wr.heap.size < w3.heap.size := by omega
            have hy1 : w.heap.size < w3.heap.size := by omega
            go_wp2_with fail
            refine region_in w 11 (by kernel_rfl) (by kernel_rfl) (by go_grown) ?_
            intro hgc hbx
            simp only [List.take_succ_cons, List.take_zero, List.drop_succ_cons, List.drop_zero]
            repeat (go_big_quiet_step ((go_at_call 36; exact Grew.call_same (unless_any _ _ _))))
            refine wpQuiet_nil ?_
            intro w4 hb4 hbw4 hsz4
            clear hgc hbx
            have hb5 : Below w2.heap.size w2 w4 := (hb2.trans ((new_below _ _).mono hb2.size)).trans ((hb3.mono (by simp; have := hb2.size; omega)).trans (hb4.mono (by have := hb2.size; omega)))
            by_cases hzE : E = 0
            · have hzz : (E != 0) = false := by simp [hzE]
              have hE3 := hE2.out
              have hz1 : Hid (stE bung none ⟨sa, si, so⟩ = 0) := by rw [hE'.out]; exact hzE
              clear hzE
              rw [← hE3] at hzz
              clear hE3
              go_wp2_with (go_at_call 33; refine (first2 _ _ _).mono ?_; rintro e w' ⟨rfl, rfl⟩)
              go_roundw
              case rel => exact ⟨k + 1, by omega, by go_num, cask_go hct hx' hp hz1, via_alloc hbw4 _, hb5.alloc (by have := hb5.size; omega) _⟩
              case measure => simp [intOf]; omega
            · have hzz : (E != 0) = true := by simp [hzE]
              have hE3 := hE2.out
              have hz1 : Hid (¬ stE bung none ⟨sa, si, so⟩ = 0) := by rw [hE'.out]; exact hzE
              clear hzE
              rw [← hE3] at hzz
              clear hE3
              go_wp2_with (go_at_call 33; refine (first2 _ _ _).mono ?_; rintro e w' ⟨rfl, rfl⟩)
              go_ret2
              exact ⟨ret_two (cask_stop hct hx' hp hz1) rfl (hE'.out.trans hE2.out.symm), via_alloc hbw4 _⟩
      · have hk0 : ((k : Int) == 0) = false := by simp [h0]
        obtain ⟨q, hq⟩ : ∃ q, k = q + 1 := ⟨k - 1, by omega⟩
        have hmx : (if 1 < (k : Int) then (k : Int) - 1 else 0) = (q : Int) := by split <;> omega
        have hql : q < ss.length := by omega
        have hqn : q < n := by rw [← hn'.out]; exact hql
        have hxq : ss[q]? = some ss[q] := List.getElem?_eq_getElem hql
        obtain ⟨m, hme⟩ : ∃ m, ss[q] = m := ⟨_, rfl⟩
        rw [hme] at hxq
        obtain ⟨bq, oq, hAq, hblq, hcq⟩ := hat'.out q m hxq
        obtain ⟨rfl, rfl⟩ : b = bq ∧ o = oq := by injection hAq with hAq; injection hAq with e1 e2 _; exact ⟨e1, e2⟩
        obtain ⟨pa, pi', po⟩ := m
        have e0 := hcq 0 _ rfl
        dsimp only at e0
        simp only [Nat.add_zero] at e0
        have hp : Hid ((if k = 0 then none else (ss[k - 1]?).map St.at_) = some pa) := by
          unfold Hid
          rw [if_neg h0, show k - 1 = q by omega, hxq]; rfl
        have hk1 : 1 ≤ k := by omega
        clear h0 hme hcq hAq hxq
        have hq' := Lib.hid hq
        clear hq
        by_cases hio : si ≤ so
        all_goals
          first | have hd : decide (si ≤ so) = true := decide_eq_true hio | have hd : decide (si ≤ so) = false := decide_eq_false hio
          rcases hcase b1 b2 b3 with rfl | ⟨rfl, rfl⟩ | ⟨rfl, rfl, rfl⟩ | ⟨rfl, rfl, rfl⟩
          all_goals
            obtain ⟨E, hE⟩ : ∃ E, stE bung (some pa) ⟨sa, si, so⟩ = E := ⟨_, rfl⟩
            have hE' := Lib.hid hE
            unfold stE at hE
            simp only [h1, h2, h3, hio, Bool.and_true, Bool.and_false, Bool.true_and, Bool.and_self, Bool.false_and, decide_true, decide_false] at hE
            have hE2 := Lib.hid hE
            clear hE
            go_wp2_with (first
              | (go_at_call 42; refine (isRadius_any _ _ _).mono ?_; rintro e w' ⟨rfl, rfl⟩)
              | (go_at_call 43; refine (within_any _ _ _ _).mono ?_; rintro e w' ⟨rfl, rfl⟩))
            refine region_all w (by kernel_rfl) (by kernel_rfl) (by go_grown) ?_
            intro hgc hbx
            repeat (go_big_quiet_step (fail))
            refine wpQuiet_nil ?_
            intro w3 hb3 hbw3 hsz3
            clear hgc hbx
            have hcc := gcell hb3
            simp only [World.size_alloc] at hsz3
            have hy0 : wr.heap.size < w3.heap.size := by omega
            have hy1 : w.heap.size < w3.heap.size := by omega
            go_wp2_with fail
            refine region_in w 11 (by kernel_rfl) (by kernel_rfl) (by go_grown) ?_
            intro hgc hbx
            simp only [List.take_succ_cons, List.take_zero, List.drop_succ_cons, List.drop_zero]
            repeat (go_big_quiet_step ((go_at_call 36; exact Grew.call_same (unless_any _ _ _))))
            refine wpQuiet_nil ?_
            intro w4 hb4 hbw4 hsz4
            clear hgc hbx
            have hb5 : Below w2.heap.size w2 w4 := (hb2.trans ((new_below _ _).mono hb2.size)).trans ((hb3.mono (by simp; have := hb2.size; omega)).trans (hb4.mono (by have := hb2.size; omega)))
            by_cases hzE : E = 0
            · have hzz : (E != 0) = false := by simp [hzE]
              have hE3 := hE2.out
              have hz1 : Hid (stE bung (some pa) ⟨sa, si, so⟩ = 0) := by rw [hE'.out]; exact hzE
              clear hzE
              rw [← hE3] at hzz
              clear hE3
              go_wp2_with (go_at_call 33; refine (first2 _ _ _).mono ?_; rintro e w' ⟨rfl, rfl⟩)
              go_roundw
              case rel => exact ⟨k + 1, by omega, by go_num, cask_go hct hx' hp hz1, via_alloc hbw4 _, hb5.alloc (by have := hb5.size; omega) _⟩
              case measure => simp [intOf]; omega
            · have hzz : (E != 0) = true := by simp [hzE]
              have hE3 := hE2.out
              have hz1 : Hid (¬ stE bung (some pa) ⟨sa, si, so⟩ = 0) := by rw [hE'.out]; exact hzE
              clear hzE
              rw [← hE3] at hzz
              clear hE3
              go_wp2_with (go_at_call 33; refine (first2 _ _ _).mono ?_; rintro e w' ⟨rfl, rfl⟩)
              go_ret2
              exact ⟨ret_two (cask_stop hct hx' hp hz1) rfl (hE'.out.trans hE2.out.symm), via_alloc hbw4 _⟩
    · have hkk : k = n := by omega
      subst hkk
      go_wp2
      go_ret2
      exact ⟨ret_two (cask_end hct (by rw [hn'.out]; exact Nat.le_refl _)) rfl rfl, hb⟩
end Go.Proofs

set_option linter.unusedSimpArgs false
set_option linter.unusedVariables false
namespace Go.Proofs
open Go.RowKit

theorem checkCask_any (s : ByteArray) (bung : Int) (A : Option Addr) (ss : List St) (c : Nat) (w : World) (hs : s.size ≤ 9223372036854775807) (hat : At 3 St.cs w A ss) :
    Calls Tryz.prog 71 #[.agg #[.string s, .int .i64 bung, .slice A ss.length c]] w fun e w' =>
      e = .returned (.tuple #[.int .i64 (checkC s.data.toList bung ss).1, .int .i64 (checkC s.data.toList bung ss).2]) ∧ Below w.heap.size w w' := by
  unfold checkC
  by_cases h : caskHeadE s.data.toList bung ss.length = 0
  · rw [if_pos h]; exact checkCask_good s bung A ss c w hs h hat
  · rw [if_neg h]; exact checkCask_bad s bung A ss.length c w hs h

theorem open_any (s : ByteArray) (bung : Int) (A : Option Addr) (ss : List St) (c : Nat) (w : World) (hs : s.size ≤ 9223372036854775807) (hat : At 3 St.cs w A ss) :
    Calls Tryz.prog 49 #[.agg #[.string s, .int .i64 bung, .slice A ss.length c]] w fun e w' =>
      e = .returned (.tuple #[.agg #[.string s, .int .i64 bung, .slice A ss.length c], .int .i64 (checkC s.data.toList bung ss).2]) ∧ Below w.heap.size w w' := by
  have hC := Lib.hid fun W hb => checkCask_any s bung A ss c W hs (At.below hat hb)
  generalize checkC s.data.toList bung ss = r at hC ⊢
  obtain ⟨i1, e1⟩ := r
  dsimp only at hC ⊢
  clear hs hat
  go_enter Tryz.func49, Tryz.ntmps49
  go_wp2_with (go_at_call 71; refine (hC.out _ ?_).mono ?_; (· go_grown); rintro e w1 ⟨rfl, hb⟩; have hcc := gcell hb; have hff := gfrozen hb; have hbw := via (by go_grown : Below w.heap.size w _) hb; have hz0 : w.heap.size < w1.heap.size := (by have := hb.size; simp at this; omega); have hz1 : w.heap.size + 1 < w1.heap.size := (by have := hb.size; simp at this; omega))
  refine bodyPost_ret (v := .tuple #[.agg #[.string s, .int .i64 bung, .slice A ss.length c], .int .i64 e1]) ?_ rfl ⟨rfl, ?_⟩
  · simp [results, Tryz.results49, go_sem, hcc, hff, hz0, hz1]
  · go_grown

theorem full_any (s : ByteArray) (bung : Int) (A : Option Addr) (n c : Nat) (w : World) :
    Calls Tryz.prog 72 #[.agg #[.string s, .int .i64 bung, .slice A n c]] w fun e w' => e = .returned (.int .i64 (wrap64 (2 * bung))) ∧ Below w.heap.size w w' := by
  go_enter Tryz.func72, Tryz.ntmps72
  go_wp2
  go_ret
  exact ⟨by simp [go_sem], new_below _ _⟩
theorem isDip_any (s : ByteArray) (bung d : Int) (A : Option Addr) (n c : Nat) (w : World) :
    Calls Tryz.prog 50 #[.agg #[.string s, .int .i64 bung, .slice A n c], .int .i64 d] w fun e w' => e = .returned (.bool (within d 0 (wrap64 (2 * bung)))) ∧ Below w.heap.size w w' := by
  go_enter Tryz.func50, Tryz.ntmps50
  go_wp2_with (first
    | (go_at_call 72; refine (full_any _ _ _ _ _ _).mono ?_; rintro e w1 ⟨rfl, hb⟩; have hbw := via (by go_grown : Below w.heap.size w _) hb)
    | (go_at_call 43; refine (within_any _ _ _ _).mono ?_; rintro e w' ⟨rfl, rfl⟩))
  go_ret
  exact ⟨rfl, hbw⟩

/-- What is known of a right cask. -/
structure RightC (bung : Int) (ss : List St) : Prop where
  b : 10 ≤ bung ∧ bung ≤ 800
  n : 1 < ss.length ∧ ss.length ≤ 12
  s : ∀ x ∈ ss, 0 ≤ x.at_ ∧ x.at_ ≤ 3000 ∧ 10 ≤ x.inn ∧ x.inn ≤ bung ∧ 10 ≤ x.out ∧ x.out ≤ bung ∧ x.inn ≤ x.out
  up : ∀ (i : Nat) (x y : St), ss[i]? = some x → ss[i + 1]? = some y → x.at_ < y.at_
def allOk (bung : Int) : Option Int → List St → Prop
  | _, [] => True
  | p, s :: l => stE bung p s = 0 ∧ allOk bung (some s.at_) l
theorem allOk_of {bung : Int} : ∀ (l : List St) (p : Option Int) (k : Nat), (stationsE bung l p k).2 = 0 → allOk bung p l
  | [], _, _, _ => trivial
  | s :: l, p, k, h => by
    unfold stationsE at h
    by_cases hz : stE bung p s = 0
    · rw [if_pos hz] at h
      exact ⟨hz, allOk_of l _ _ h⟩
    · rw [if_neg hz] at h
      exact (hz h).elim
theorem stE_zero {bung : Int} {p : Option Int} {s : St} (h : stE bung p s = 0) : (0 ≤ s.at_ ∧ s.at_ ≤ 3000 ∧ 10 ≤ s.inn ∧ s.inn ≤ bung ∧ 10 ≤ s.out ∧ s.out ≤ bung ∧ s.inn ≤ s.out) ∧ ∀ q, p = some q → q < s.at_ := by
  unfold stE firstE unl within at h
  simp only [firstE] at h
  by_cases h1 : (0 ≤ s.at_ ∧ s.at_ ≤ 3000) <;> by_cases h2 : (10 ≤ s.inn ∧ s.inn ≤ bung) <;> by_cases h3 : (10 ≤ s.out ∧ s.out ≤ bung) <;> by_cases h4 : s.inn ≤ s.out <;> simp [h1, h2, h3, h4] at h
  · refine ⟨⟨h1.1, h1.2, h2.1, h2.2, h3.1, h3.2, h4⟩, ?_⟩
    rintro q rfl
    simp at h; omega
theorem allOk_mem {bung : Int} : ∀ (l : List St) (p : Option Int), allOk bung p l → ∀ x ∈ l, 0 ≤ x.at_ ∧ x.at_ ≤ 3000 ∧ 10 ≤ x.inn ∧ x.inn ≤ bung ∧ 10 ≤ x.out ∧ x.out ≤ bung ∧ x.inn ≤ x.out
  | s :: l, p, h, x, hx => by
    rcases List.mem_cons.1 hx with rfl | hx
    · exact (stE_zero h.1).1
    · exact allOk_mem l _ h.2 x hx
theorem allOk_up {bung : Int} : ∀ (l : List St) (p : Option Int), allOk bung p l → ∀ (i : Nat) (x y : St), l[i]? = some x → l[i + 1]? = some y → x.at_ < y.at_
  | s :: t :: l, p, h, 0, x, y, hx, hy => by
    simp only [List.getElem?_cons_zero, Option.some.injEq] at hx
    simp only [Nat.zero_add, List.getElem?_cons_succ, List.getElem?_cons_zero, Option.some.injEq] at hy
    subst hx hy
    exact (stE_zero h.2.1).2 _ rfl
  | s :: l, p, h, i + 1, x, y, hx, hy => by
    simp only [List.getElem?_cons_succ] at hx hy
    exact allOk_up l _ h.2 i x y hx hy
  | [s], p, h, 0, x, y, hx, hy => by simp at hy
theorem rightC_of {name : List UInt8} {bung : Int} {ss : List St} (h : (checkC name bung ss).2 = 0) : RightC bung ss := by
  unfold checkC at h
  by_cases hz : caskHeadE name bung ss.length = 0
  · rw [if_pos hz] at h
    obtain ⟨_, h2, h3, h4⟩ := caskHeadE_zero hz
    have hall := allOk_of ss none 0 h
    exact ⟨within_true h2, ⟨h3, h4⟩, allOk_mem ss none hall, allOk_up ss none hall⟩
  · rw [if_neg hz] at h
    exact (hz h).elim

/-- The part of the volume between two stations. -/
def part (bung dip : Int) (p s : St) : Int × Int := ((s.at_ - p.at_) * (areaOf (min p.inn s.inn) (dip - bung)).1, (s.at_ - p.at_) * (areaOf (max p.out s.out) (dip - bung)).2)
def sumTo (bung dip : Int) (ss : List St) : Nat → Int × Int
  | 0 => (0, 0)
  | k + 1 => match ss[k]?, ss[k + 1]? with
    | some p, some s => ((sumTo bung dip ss k).1 + (part bung dip p s).1, (sumTo bung dip ss k).2 + (part bung dip p s).2)
    | _, _ => sumTo bung dip ss k
def toV (bung dip : Int) (ss : List St) : Int × Int := ((sumTo bung dip ss (ss.length - 1)).1 / 100000, -(-(sumTo bung dip ss (ss.length - 1)).2 / 100000))

theorem area_bd (c lv : Int) (hc : 0 ≤ c) (hc2 : c ≤ 800) (_h : -1000 ≤ lv) : 0 ≤ (areaOf c lv).1 ∧ (areaOf c lv).1 ≤ 3201600 ∧ 0 ≤ (areaOf c lv).2 ∧ (areaOf c lv).2 ≤ 3201600 := by
  unfold areaOf
  have := sumA_bd c hc (by omega) (min lv c + c).toNat (by omega)
  omega
theorem prod_bd (a b : Int) (h1 : 0 ≤ a) (h2 : a ≤ 3000) (h3 : 0 ≤ b) (h4 : b ≤ 3201600) : 0 ≤ a * b ∧ a * b ≤ 9604800000 := by
  refine ⟨Int.mul_nonneg h1 h3, ?_⟩
  have := Int.mul_le_mul h2 h4 h3 (by omega : (0 : Int) ≤ 3000)
  omega
theorem sumTo_bd (bung dip : Int) (ss : List St) (h : RightC bung ss) (hd : 0 ≤ dip) (_hd2 : dip ≤ 2 * bung) : ∀ k, k ≤ 11 → 0 ≤ (sumTo bung dip ss k).1 ∧ (sumTo bung dip ss k).1 ≤ 9604800000 * k ∧ 0 ≤ (sumTo bung dip ss k).2 ∧ (sumTo bung dip ss k).2 ≤ 9604800000 * k
  | 0, _ => by simp [sumTo]
  | k + 1, hk => by
    have ih := sumTo_bd bung dip ss h hd _hd2 k (by omega)
    unfold sumTo
    cases hp : ss[k]? with
    | none => simp only; omega
    | some p => cases hs : ss[k + 1]? with
      | none => simp only; omega
      | some s =>
        have hps := h.s p (List.mem_of_getElem? hp)
        have hss := h.s s (List.mem_of_getElem? hs)
        have hup := h.up k p s hp hs
        have hb := h.b
        have a1 := area_bd (min p.inn s.inn) (dip - bung) (by omega) (by omega) (by omega)
        have a2 := area_bd (max p.out s.out) (dip - bung) (by omega) (by omega) (by omega)
        have b1 := prod_bd (s.at_ - p.at_) _ (by omega) (by omega) a1.1 a1.2.1
        have b2 := prod_bd (s.at_ - p.at_) _ (by omega) (by omega) a2.2.2.1 a2.2.2.2
        unfold part
        dsimp only
        omega
end Go.Proofs
