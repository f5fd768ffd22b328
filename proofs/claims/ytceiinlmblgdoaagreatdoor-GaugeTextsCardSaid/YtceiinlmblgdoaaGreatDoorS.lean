import Derived.Test.YtceiinlmblgdoaaGreatDoorP
import Derived.Test.YtceiinlmblgdoaaGreatDoorI
set_option linter.unusedSimpArgs false
set_option linter.unusedVariables false
namespace Go.Proofs
open Go.RowKit

structure St where
  at_ : Int
  inn : Int
  out : Int
def St.cs (x : St) : List Value := [.int .i64 x.at_, .int .i64 x.inn, .int .i64 x.out]
/-- The error of a station, given the one before. -/
def stE (bung : Int) (prev : Option Int) (s : St) : Int :=
  firstE [unl (within s.at_ 0 3000 && within s.inn 10 bung && within s.out 10 bung) 2, unl (decide (s.inn ≤ s.out) && (match prev with | none => true | some p => decide (p < s.at_))) 9]
def stationsE (bung : Int) : List St → Option Int → Nat → Int × Int
  | [], _, _ => (0, 0)
  | s :: l, prev, k => if stE bung prev s = 0 then stationsE bung l (some s.at_) (k + 1) else (k, stE bung prev s)
def caskHeadE (name : List UInt8) (bung : Int) (n : Nat) : Int :=
  firstE [unl (nameB name) 4, unl (within bung 10 800) 2, unl (decide (1 < (n : Int))) 10, unl (decide ((n : Int) ≤ 12)) 8]
def checkC (name : List UInt8) (bung : Int) (ss : List St) : Int × Int :=
  if caskHeadE name bung ss.length = 0 then stationsE bung ss none 0 else (0, caskHeadE name bung ss.length)

set_option maxRecDepth 100000 in
set_option maxHeartbeats 1000000 in
theorem checkCask_bad (s : ByteArray) (bung : Int) (A : Option Addr) (n c : Nat) (w : World) (hs : s.size ≤ 9223372036854775807) (hbad : caskHeadE s.data.toList bung n ≠ 0) :
    Calls Tryz.prog 60 #[.agg #[.string s, .int .i64 bung, .slice A n c]] w fun e w' =>
      e = .returned (.tuple #[.int .i64 0, .int .i64 (caskHeadE s.data.toList bung n)]) ∧ Below w.heap.size w w' := by
  unfold caskHeadE at *
  have hzz := bne_iff_ne.2 hbad
  have hbad' := Lib.hid hbad
  clear hbad
  go_enter Tryz.func60, Tryz.ntmps60
  go_wp2_with fail
  refine region_in w 14 (by kernel_rfl) (by kernel_rfl) (by go_grown) ?_
  intro hgc hbx
  simp only [List.take_succ_cons, List.take_zero, List.drop_succ_cons, List.drop_zero]
  repeat (go_big_quiet_step (first
    | (go_at_call 51; exact Grew.call (isName_any _ _ hs))
    | (go_at_call 28; exact Grew.call_same (isRadius_any _ _ _))
    | (go_at_call 36; exact Grew.call_same (unless_any _ _ _))))
  refine wpQuiet_nil ?_
  intro w1 hb hbw hsz
  clear hgc hbx
  have hcc := gcell hb
  have hff := gfrozen hb
  simp only [World.size_alloc] at hsz
  have hz0 : w.heap.size < w1.heap.size := by omega
  go_wp2_with (go_at_call 32; refine (first4 _ _ _ _ _).mono ?_; rintro e w' ⟨rfl, rfl⟩)
  go_ret2
  exact ⟨rfl, via_alloc hbw _⟩

def CAt (bung : Int) (l : List St) (k : Nat) : Prop := stationsE bung l none 0 = stationsE bung (l.drop k) (if k = 0 then none else (l[k - 1]?).map St.at_) k
theorem cask_go {bung : Int} {l : List St} {k : Nat} {x : St} {p : Option Int} (h : CAt bung l k) (hx : Hid (l[k]? = some x)) (hp : Hid ((if k = 0 then none else (l[k - 1]?).map St.at_) = p)) (hz : Hid (stE bung p x = 0)) : CAt bung l (k + 1) := by
  unfold CAt at *
  obtain ⟨hi, hx'⟩ := List.getElem?_eq_some_iff.1 hx.out
  rw [h, List.drop_eq_getElem_cons hi, hx', stationsE, hp.out, if_pos hz.out]
  congr 1
  rw [if_neg (by omega), Nat.add_sub_cancel, hx.out]; rfl
theorem cask_stop {bung : Int} {l : List St} {k : Nat} {x : St} {p : Option Int} (h : CAt bung l k) (hx : Hid (l[k]? = some x)) (hp : Hid ((if k = 0 then none else (l[k - 1]?).map St.at_) = p)) (hz : Hid (¬ stE bung p x = 0)) :
    stationsE bung l none 0 = ((k : Int), stE bung p x) := by
  unfold CAt at *
  obtain ⟨hi, hx'⟩ := List.getElem?_eq_some_iff.1 hx.out
  rw [h, List.drop_eq_getElem_cons hi, hx', stationsE, hp.out, if_neg hz.out]
theorem cask_end {bung : Int} {l : List St} {k : Nat} (h : CAt bung l k) (hk : l.length ≤ k) : stationsE bung l none 0 = (0, 0) := by
  unfold CAt at h
  rw [h, List.drop_of_length_le hk]; rfl
theorem caskHeadE_zero {name : List UInt8} {bung : Int} {n : Nat} (h : caskHeadE name bung n = 0) : nameB name = true ∧ within bung 10 800 = true ∧ 1 < n ∧ n ≤ 12 := by
  unfold caskHeadE firstE unl at h
  by_cases h1 : nameB name = true <;> by_cases h2 : within bung 10 800 = true <;> by_cases h3 : 1 < (n : Int) <;> by_cases h4 : (n : Int) ≤ 12 <;> simp [h1, h2, h3, h4, firstE] at h
  exact ⟨h1, h2, by omega, by omega⟩

set_option maxRecDepth 100000 in
set_option maxHeartbeats 2000000 in
theorem checkCask_good (s : ByteArray) (bung : Int) (A : Option Addr) (ss : List St) (c : Nat) (w : World) (hs : s.size ≤ 9223372036854775807) (hok : caskHeadE s.data.toList bung ss.length = 0) (hat : At 3 St.cs w A ss) :
    Calls Tryz.prog 60 #[.agg #[.string s, .int .i64 bung, .slice A ss.length c]] w fun e w' =>
      e = .returned (.tuple #[.int .i64 (stationsE bung ss none 0).1, .int .i64 (stationsE bung ss none 0).2]) ∧ Below w.heap.size w w' := by
  obtain ⟨hnm, hbg, hn1, hn2⟩ := caskHeadE_zero hok
  obtain ⟨n, hn⟩ : ∃ n, ss.length = n := ⟨_, rfl⟩
  have hn' := Lib.hid hn
  rw [hn] at hn1 hn2 ⊢
  clear hn hok
  have h1' : (1 : Int) < (n : Int) := by omega
  have h2' : (n : Int) ≤ 12 := by omega
  have hN := fun W => isName_any s W hs
  rw [hnm] at hN
  have hN' := Lib.hid hN
  have hz : (firstE [unl true 4, unl true 2, unl true 10, unl true 8] != 0) = false := by decide
  clear hN hnm
  go_enter Tryz.func60, Tryz.ntmps60
  go_wp2_with fail
  refine region_in w 14 (by kernel_rfl) (by kernel_rfl) (by go_grown) ?_
  intro hgc hbx
  simp only [List.take_succ_cons, List.take_zero, List.drop_succ_cons, List.drop_zero]
  repeat (go_big_quiet_step (first
    | (go_at_call 51; exact Grew.call (hN'.out _))
    | (go_at_call 28; exact Grew.call_same (isRadius_any _ _ _))
    | (go_at_call 36; exact Grew.call_same (unless_any _ _ _))))
  refine wpQuiet_nil ?_
  intro w1 hb hbw hsz
  clear hgc hbx
  have hcc := gcell hb
  simp only [World.size_alloc] at hsz
  have hz0 : w.heap.size < w1.heap.size := by omega
  go_wp2_with (go_at_call 32; refine (first4 _ _ _ _ _).mono ?_; rintro e w' ⟨rfl, rfl⟩)
  have hcc1 : ∀ o, (w1.alloc (.cells #[.int .i64 (unl true 4), .int .i64 (unl true 2), .int .i64 (unl true 10), .int .i64 (unl true 8)] 28)).cell? ⟨w.heap.size, o, none⟩ = (w.alloc (.cells #[.string s, .int .i64 bung, .slice A n c] 49)).cell? ⟨w.heap.size, o, none⟩ := fun o => by
    rw [World.cell?_alloc_past _ _ _ hz0]; exact hcc _ _ (by simp)
  have hbox : ∀ o, (w.alloc (.cells #[.string s, .int .i64 bung, .slice A n c] 49)).cell? ⟨w.heap.size, o, none⟩ = #[Value.string s, .int .i64 bung, .slice A n c][o]? := fun o => World.cell?_alloc_at _ _ _ _ rfl
  have hbw2 := via_alloc hbw (.cells #[.int .i64 (unl true 4), .int .i64 (unl true 2), .int .i64 (unl true 10), .int .i64 (unl true 8)] 28)
  have hz2 : w.heap.size < (w1.alloc (.cells #[.int .i64 (unl true 4), .int .i64 (unl true 2), .int .i64 (unl true 10), .int .i64 (unl true 8)] 28)).heap.size := by simp; omega
  generalize w1.alloc (.cells #[.int .i64 (unl true 4), .int .i64 (unl true 2), .int .i64 (unl true 10), .int .i64 (unl true 8)] 28) = w2 at *
  have q0 : w2.cell? ⟨w.heap.size, 0, none⟩ = some (.string s) := by rw [hcc1, hbox]; rfl
  have q1 : w2.cell? ⟨w.heap.size, 1, none⟩ = some (.int .i64 bung) := by rw [hcc1, hbox]; rfl
  have q2 : w2.cell? ⟨w.heap.size, 2, none⟩ = some (.slice A n c) := by rw [hcc1, hbox]; rfl
  clear hcc1 hbox hcc hb hbw hsz hz0 hz hN'
  have hbg' := within_true hbg
  obtain ⟨hbg1, hbg2⟩ := hbg'
  clear hbg
  go_loopw [36] (fun i wr => ∃ k : Nat, k ≤ n ∧ i = .int .i64 k ∧ CAt bung ss k ∧ Below w.heap.size w wr ∧ Below w2.heap.size w2 wr) (fun i _ => n - (intOf i).toNat)
  case atStart => exact ⟨0, Nat.zero_le _, rfl, rfl, hbw2, Below.refl _ _⟩
  case round =>
    obtain ⟨k, hk, rfl, hct, hb, hb2⟩ := hrel
    have r0 := (hb2.cell (p := ⟨w.heap.size, 0, none⟩) hz2).trans q0
    have r1 := (hb2.cell (p := ⟨w.heap.size, 1, none⟩) hz2).trans q1
    have r2 := (hb2.cell (p := ⟨w.heap.size, 2, none⟩) hz2).trans q2
    clear q0 q1 q2
    have hwr : w.heap.size < wr.heap.size := by have := hb2.size; omega
    by_cases hlt : k < n
    · have hkl : k < ss.length := by rw [hn'.out]; exact hlt
      have hx : ss[k]? = some ss[k] := List.getElem?_eq_getElem hkl
      obtain ⟨m, hme⟩ : ∃ m, ss[k] = m := ⟨_, rfl⟩
      rw [hme] at hx
      have hatr := hat.below hb
      obtain ⟨b, o, hA, hbl, hc⟩ := hatr k m hx
      subst hA
      have hat' := Lib.hid hatr
      clear hatr hat hme
      obtain ⟨sa, si, so⟩ := m
      have c0 := hc 0 _ rfl
      have c1 := hc 1 _ rfl
      have c2 := hc 2 _ rfl
      dsimp only at c0 c1 c2
      simp only [Nat.add_zero] at c0
      clear hc
      have hx' := Lib.hid hx
      clear hx
      obtain ⟨b1, h1⟩ : ∃ b, within sa 0 3000 = b := ⟨_, rfl⟩
      obtain ⟨b2, h2⟩ : ∃ b, within si 10 bung = b := ⟨_, rfl⟩
      obtain ⟨b3, h3⟩ : ∃ b, within so 10 bung = b := ⟨_, rfl⟩
      have hcase : ∀ b1 b2 b3 : Bool, b1 = false ∨ (b1 = true ∧ b2 = false) ∨ (b1 = true ∧ b2 = true ∧ b3 = false) ∨ (b1 = true ∧ b2 = true ∧ b3 = true) := by decide
      by_cases h0 : k = 0
      · have hk0 : ((k : Int) == 0) = true := by simp [h0]
        have hp : Hid ((if k = 0 then none else (ss[k - 1]?).map St.at_) = none) := if_pos h0
        clear h0
        by_cases hio : si ≤ so
        all_goals
          first | have hd : decide (si ≤ so) = true := decide_eq_true hio | have hd : decide (si ≤ so) = false := decide_eq_false hio
          rcases hcase b1 b2 b3 with rfl | ⟨rfl, rfl⟩ | ⟨rfl, rfl, rfl⟩ | ⟨rfl, rfl, rfl⟩
          all_goals
            obtain ⟨E, hE⟩ : ∃ E, stE bung none ⟨sa, si, so⟩ = E := ⟨_, rfl⟩
            have hE' := Lib.hid hE
            unfold stE at hE
            simp only [h1, h2, h3, hio, Bool.and_true, Bool.and_false, Bool.true_and, Bool.and_self, Bool.false_and, decide_true, decide_false] at hE
            have hE2 := Lib.hid hE
            clear hE
            go_wp2_with (first
              | (go_at_call 28; refine (isRadius_any _ _ _).mono ?_; rintro e w' ⟨rfl, rfl⟩)
              | (go_at_call 29; refine (within_any _ _ _ _).mono ?_; rintro e w' ⟨rfl, rfl⟩))
            refine region_all w (by kernel_rfl) (by kernel_rfl) (by go_grown) ?_
            intro hgc hbx
            repeat (go_big_quiet_step (fail))
            refine wpQuiet_nil ?_
            intro w3 hb3 hbw3 hsz3
            clear hgc hbx
            have hcc := gcell hb3
            simp only [World.size_alloc] at hsz3
            have hy0 : wr.heap.size < w3.heap.size := by omega
            have hy1 : w.heap.size < w3.heap.size := by omega
            go_wp2_with fail
            refine region_in w 11 (by kernel_rfl) (by kernel_rfl) (by go_grown) ?_
            intro hgc hbx
            simp only [List.take_succ_cons, List.take_zero, List.drop_succ_cons, List.drop_zero]
            repeat (go_big_quiet_step ((go_at_call 36; exact Grew.call_same (unless_any _ _ _))))
            refine wpQuiet_nil ?_
            intro w4 hb4 hbw4 hsz4
            clear hgc hbx
            have hb5 : Below w2.heap.size w2 w4 := (hb2.trans ((new_below _ _).mono hb2.size)).trans ((hb3.mono (by simp; have := hb2.size; omega)).trans (hb4.mono (by have := hb2.size; omega)))
            by_cases hzE : E = 0
            · have hzz : (E != 0) = false := by simp [hzE]
              have hE3 := hE2.out
              have hz1 : Hid (stE bung none ⟨sa, si, so⟩ = 0) := by rw [hE'.out]; exact hzE
              clear hzE
              rw [← hE3] at hzz
              clear hE3
              go_wp2_with (go_at_call 32; refine (first2 _ _ _).mono ?_; rintro e w' ⟨rfl, rfl⟩)
              go_roundw
              case rel => exact ⟨k + 1, by omega, by go_num, cask_go hct hx' hp hz1, via_alloc hbw4 _, hb5.alloc (by have := hb5.size; omega) _⟩
              case measure => simp [intOf]; omega
            · have hzz : (E != 0) = true := by simp [hzE]
              have hE3 := hE2.out
              have hz1 : Hid (¬ stE bung none ⟨sa, si, so⟩ = 0) := by rw [hE'.out]; exact hzE
              clear hzE
              rw [← hE3] at hzz
              clear hE3
              go_wp2_with (go_at_call 32; refine (first2 _ _ _).mono ?_; rintro e w' ⟨rfl, rfl⟩)
              go_ret2
              exact ⟨ret_two (cask_stop hct hx' hp hz1) rfl (hE'.out.trans hE2.out.symm), via_alloc hbw4 _⟩
      · have hk0 : ((k : Int) == 0) = false := by simp [h0]
        obtain ⟨q, hq⟩ : ∃ q, k = q + 1 := ⟨k - 1, by omega⟩
        have hmx : (if 1 < (k : Int) then (k : Int) - 1 else 0) = (q : Int) := by split <;> omega
        have hql : q < ss.length := by omega
        have hqn : q < n := by rw [← hn'.out]; exact hql
        have hxq : ss[q]? = some ss[q] := List.getElem?_eq_getElem hql
        obtain ⟨m, hme⟩ : ∃ m, ss[q] = m := ⟨_, rfl⟩
        rw [hme] at hxq
        obtain ⟨bq, oq, hAq, hblq, hcq⟩ := hat'.out q m hxq
        obtain ⟨rfl, rfl⟩ : b = bq ∧ o = oq := by injection hAq with hAq; injection hAq with e1 e2 _; exact ⟨e1, e2⟩
        obtain ⟨pa, pi', po⟩ := m
        have e0 := hcq 0 _ rfl
        dsimp only at e0
        simp only [Nat.add_zero] at e0
        have hp : Hid ((if k = 0 then none else (ss[k - 1]?).map St.at_) = some pa) := by
          unfold Hid
          rw [if_neg h0, show k - 1 = q by omega, hxq]; rfl
        have hk1 : 1 ≤ k := by omega
        clear h0 hme hcq hAq hxq
        have hq' := Lib.hid hq
        clear hq
        by_cases hio : si ≤ so
        all_goals
          first | have hd : decide (si ≤ so) = true := decide_eq_true hio | have hd : decide (si ≤ so) = false := decide_eq_false hio
          rcases hcase b1 b2 b3 with rfl | ⟨rfl, rfl⟩ | ⟨rfl, rfl, rfl⟩ | ⟨rfl, rfl, rfl⟩
          all_goals
            obtain ⟨E, hE⟩ : ∃ E, stE bung (some pa) ⟨sa, si, so⟩ = E := ⟨_, rfl⟩
            have hE' := Lib.hid hE
            unfold stE at hE
            simp only [h1, h2, h3, hio, Bool.and_true, Bool.and_false, Bool.true_and, Bool.and_self, Bool.false_and, decide_true, decide_false] at hE
            have hE2 := Lib.hid hE
            clear hE
            go_wp2_with (first
              | (go_at_call 28; refine (isRadius_any _ _ _).mono ?_; rintro e w' ⟨rfl, rfl⟩)
              | (go_at_call 29; refine (within_any _ _ _ _).mono ?_; rintro e w' ⟨rfl, rfl⟩))
            refine region_all w (by kernel_rfl) (by kernel_rfl) (by go_grown) ?_
            intro hgc hbx
            repeat (go_big_quiet_step (fail))
            refine wpQuiet_nil ?_
            intro w3 hb3 hbw3 hsz3
            clear hgc hbx
            have hcc := gcell hb3
            simp only [World.size_alloc] at hsz3
            have hy0 : wr.heap.size < w3.heap.size := by omega
            have hy1 : w.heap.size < w3.heap.size := by omega
            go_wp2_with fail
            refine region_in w 11 (by kernel_rfl) (by kernel_rfl) (by go_grown) ?_
            intro hgc hbx
            simp only [List.take_succ_cons, List.take_zero, List.drop_succ_cons, List.drop_zero]
            repeat (go_big_quiet_step ((go_at_call 36; exact Grew.call_same (unless_any _ _ _))))
            refine wpQuiet_nil ?_
            intro w4 hb4 hbw4 hsz4
            clear hgc hbx
            have hb5 : Below w2.heap.size w2 w4 := (hb2.trans ((new_below _ _).mono hb2.size)).trans ((hb3.mono (by simp; have := hb2.size; omega)).trans (hb4.mono (by have := hb2.size; omega)))
            by_cases hzE : E = 0
            · have hzz : (E != 0) = false := by simp [hzE]
              have hE3 := hE2.out
              have hz1 : Hid (stE bung (some pa) ⟨sa, si, so⟩ = 0) := by rw [hE'.out]; exact hzE
              clear hzE
              rw [← hE3] at hzz
              clear hE3
              go_wp2_with (go_at_call 32; refine (first2 _ _ _).mono ?_; rintro e w' ⟨rfl, rfl⟩)
              go_roundw
              case rel => exact ⟨k + 1, by omega, by go_num, cask_go hct hx' hp hz1, via_alloc hbw4 _, hb5.alloc (by have := hb5.size; omega) _⟩
              case measure => simp [intOf]; omega
            · have hzz : (E != 0) = true := by simp [hzE]
              have hE3 := hE2.out
              have hz1 : Hid (¬ stE bung (some pa) ⟨sa, si, so⟩ = 0) := by rw [hE'.out]; exact hzE
              clear hzE
              rw [← hE3] at hzz
              clear hE3
              go_wp2_with (go_at_call 32; refine (first2 _ _ _).mono ?_; rintro e w' ⟨rfl, rfl⟩)
              go_ret2
              exact ⟨ret_two (cask_stop hct hx' hp hz1) rfl (hE'.out.trans hE2.out.symm), via_alloc hbw4 _⟩
    · have hkk : k = n := by omega
      subst hkk
      go_wp2
      go_ret2
      exact ⟨ret_two (cask_end hct (by rw [hn'.out]; exact Nat.le_refl _)) rfl rfl, hb⟩
end Go.Proofs
