import Derived.Test.YtmnjoamkaapjcaaGreatMg4
set_option linter.unusedSimpArgs false
set_option linter.unusedVariables false
namespace Go.Proofs
open Go.RowKit

theorem told_any (a b : Int) (w : World) (h1 : -1000000000000000000 ≤ a) (h2 : a ≤ 1000000000000000000) (h3 : -1000000000000000000 ≤ b) (h4 : b ≤ 1000000000000000000) :
    Calls Tryz.prog 70 #[.agg #[.int .i64 a, .int .i64 b]] w fun e w' => e = .returned (.agg #[.int .i64 (a / 1000), .int .i64 (-(-b / 1000))]) ∧ Below w.heap.size w w' := by
  go_enter Tryz.func70, Tryz.ntmps70
  go_wp2_with fail
  refine region_in w 7 (by kernel_rfl) (by kernel_rfl) (by go_grown) ?_
  intro hgc hbx
  simp only [List.take_succ_cons, List.take_zero, List.drop_succ_cons, List.drop_zero]
  repeat (go_big_quiet_step (first
    | (go_at_call 73; exact Grew.call_same (floor_any _ _ _ h1 h2 (by omega)))
    | (go_at_call 74; exact Grew.call_same (ceil_any _ _ _ h3 h4 (by omega)))))
  refine wpQuiet_nil ?_
  intro w1 hb hbw hsz
  have hcc := gcell hb
  have hff := gfrozen hb
  simp only [World.size_alloc] at hsz
  go_wp2
  exact bodyPost_ret (v := .agg #[.int .i64 (a / 1000), .int .i64 (-(-b / 1000))]) (by simp [results, Tryz.results70, go_sem, hcc, hff, hsz]) rfl
      ⟨rfl, by go_grown⟩

/-- Is a day no less than the one before? -/
def okDay : Option Int → Int → Bool
  | none, _ => true
  | some b, d => decide (b ≤ d)
/-- The first fault of a list of gaugings (moves): its number, and its error. -/
def datedE {α : Type} (err : α → Int) (day : α → Int) : List α → Option Int → Nat → Int × Int
  | [], _, _ => (-1, 0)
  | x :: l, before, k =>
    if firstE [err x, unl (okDay before (day x)) 9] = 0 then datedE err day l (some (day x)) (k + 1) else (k, firstE [err x, unl (okDay before (day x)) 9])
def rdErr (x : Rd) : Int := gaugingE x.c.data.toList x.d x.lo x.hi
def bef {α : Type} (day : α → Int) (l : List α) (k : Nat) : Option Int := if k = 0 then none else (l[k - 1]?).map day
def DatedAt {α : Type} (err : α → Int) (day : α → Int) (l : List α) (k : Nat) : Prop := datedE err day l none 0 = datedE err day (l.drop k) (bef day l k) k
theorem dated_go {α : Type} {err day : α → Int} {l : List α} {k : Nat} {x : α} {o : Bool} (h : DatedAt err day l k) (hx : Hid (l[k]? = some x)) (ho : Hid (okDay (bef day l k) (day x) = o)) {E : Int} (hE : Hid (err x = E)) (hz : Hid (firstE [E, unl o 9] = 0)) :
    DatedAt err day l (k + 1) := by
  unfold DatedAt at *
  obtain ⟨hi, hx'⟩ := List.getElem?_eq_some_iff.1 hx.out
  rw [h, List.drop_eq_getElem_cons hi, hx', datedE, ho.out, hE.out, if_pos hz.out]
  congr 1
  unfold bef
  rw [if_neg (by omega), Nat.add_sub_cancel, hx.out]; rfl
theorem dated_stop {α : Type} {err day : α → Int} {l : List α} {k : Nat} {x : α} {o : Bool} (h : DatedAt err day l k) (hx : Hid (l[k]? = some x)) (ho : Hid (okDay (bef day l k) (day x) = o)) {E : Int} (hE : Hid (err x = E)) (hz : Hid (¬ firstE [E, unl o 9] = 0)) :
    datedE err day l none 0 = ((k : Int), firstE [E, unl o 9]) := by
  unfold DatedAt at *
  obtain ⟨hi, hx'⟩ := List.getElem?_eq_some_iff.1 hx.out
  rw [h, List.drop_eq_getElem_cons hi, hx', datedE, ho.out, hE.out, if_neg hz.out]
theorem dated_end {α : Type} {err day : α → Int} {l : List α} {k : Nat} (h : DatedAt err day l k) (hk : l.length ≤ k) : datedE err day l none 0 = (-1, 0) := by
  unfold DatedAt at h
  rw [h, List.drop_of_length_le hk]; rfl
theorem bef_zero {α : Type} {day : α → Int} {l : List α} {k : Nat} {x : α} (hk : k = 0) : okDay (bef day l k) (day x) = true := by
  subst hk; rfl
theorem bef_succ {α : Type} {day : α → Int} {l : List α} {k q : Nat} {x y : α} (hk : k = q + 1) (hq : l[q]? = some y) : okDay (bef day l k) (day x) = decide (day y ≤ day x) := by
  subst hk; unfold bef; rw [if_neg (by omega), Nat.add_sub_cancel, hq]; rfl
theorem ret_two {a b a' b' : Int} {p : Int × Int} (h : p = (a', b')) (h1 : a' = a) (h2 : b' = b) : Ending.returned (.tuple #[.int .i64 a, .int .i64 b]) = .returned (.tuple #[.int .i64 p.1, .int .i64 p.2]) := by subst h h1 h2; rfl

set_option maxRecDepth 100000 in
set_option maxHeartbeats 2000000 in
theorem datedR_any (A : Option Addr) (l : List Rd) (cap : Nat) (w : World)
    (hl : l.length ≤ 60) (hs : ∀ x ∈ l, x.c.size ≤ 9223372036854775807) (hat : At 4 Rd.cs w A l) :
    Calls Tryz.prog 76 #[.slice A l.length cap, .func (.func 77) #[] #[], .func (.func 78) #[] #[]] w fun e w' =>
      e = .returned (.tuple #[.int .i64 (datedE rdErr Rd.d l none 0).1, .int .i64 (datedE rdErr Rd.d l none 0).2]) ∧ Below w.heap.size w w' := by
  obtain ⟨n, hn⟩ : ∃ n, l.length = n := ⟨_, rfl⟩
  have hn' := Lib.hid hn
  rw [hn] at hl ⊢
  clear hn
  have hs' := Lib.hid hs
  clear hs
  go_enter Tryz.func76, Tryz.ntmps76
  go_wp2
  go_loopw [13] (fun i wr => ∃ k : Nat, k ≤ n ∧ i = .int .i64 k ∧ DatedAt rdErr Rd.d l k ∧ Below w.heap.size w wr) (fun i _ => n - (intOf i).toNat)
  case atStart => exact ⟨0, Nat.zero_le _, rfl, rfl, Below.refl _ _⟩
  case round =>
    obtain ⟨k, hk, rfl, hdt, hb⟩ := hrel
    by_cases hlt : k < n
    · have hkl : k < l.length := by rw [hn'.out]; exact hlt
      have hx : l[k]? = some l[k] := List.getElem?_eq_getElem hkl
      obtain ⟨m, hme⟩ : ∃ m, l[k] = m := ⟨_, rfl⟩
      rw [hme] at hx
      have hsx := Lib.hid (hs'.out m (List.mem_of_getElem? hx))
      have hatr := hat.below hb
      obtain ⟨b, o, hA, hbl, hc⟩ := hatr k m hx
      subst hA
      have hat' := Lib.hid hatr
      clear hatr hat
      have hE := fun W => gaugingErr_any m.c m.d m.lo m.hi W hsx.out
      have hD := fun W => dayOf_any m W
      obtain ⟨E, hEE⟩ : ∃ E, rdErr m = E := ⟨_, rfl⟩
      have hEE' := Lib.hid hEE
      have hE2 := hE
      clear hE
      unfold rdErr at hEE
      rw [hEE] at hE2
      obtain ⟨c, d, lo, hi⟩ := m
      have c0 := hc 0 _ rfl
      have c1 := hc 1 _ rfl
      have c2 := hc 2 _ rfl
      have c3 := hc 3 _ rfl
      dsimp only at c0 c1 c2 c3 hD hE2
      simp only [Nat.add_zero] at c0
      clear hme hc hEE
      have hx' := Lib.hid hx
      clear hx
      have hD' := Lib.hid hD
      have hE' := Lib.hid hE2
      clear hD hE2
      have hwr := hb.size
      by_cases h0 : k = 0
      · have hk0 : ((k : Int) == 0) = true := by simp [h0]
        have ho := Lib.hid (bef_zero (day := Rd.d) (l := l) (x := ⟨c, d, lo, hi⟩) h0)
        clear h0
        go_wp2_with fail
        refine region_in w 20 (by kernel_rfl) (by kernel_rfl) (by go_grown) ?_
        intro hgc hbx
        simp only [List.take_succ_cons, List.take_zero, List.drop_succ_cons, List.drop_zero]
        repeat (go_big_quiet_step (first
          | (go_at_call 77; exact Grew.call (hE'.out _))
          | (go_at_call 36; exact Grew.call_same (unless_any _ _ _))))
        refine wpQuiet_nil ?_
        intro w1 hb1 hbw hsz
        clear hgc hbx
        by_cases hz : firstE [E, unl true 9] = 0
        · have hzz : (firstE [E, unl true 9] != 0) = false := by simp [hz]
          have hz' := Lib.hid hz
          clear hz
          go_wp2_with (go_at_call 33; refine (first2 _ _ _).mono ?_; rintro e w' ⟨rfl, rfl⟩)
          go_roundw
          case rel => exact ⟨k + 1, by omega, by go_num, dated_go hdt hx' ho hEE' hz', via_alloc hbw _⟩
          case measure => simp [intOf]; omega
        · have hzz : (firstE [E, unl true 9] != 0) = true := by simp [hz]
          have hz' := Lib.hid hz
          clear hz
          go_wp2_with (go_at_call 33; refine (first2 _ _ _).mono ?_; rintro e w' ⟨rfl, rfl⟩)
          go_ret2
          exact ⟨ret_two (dated_stop hdt hx' ho hEE' hz') rfl rfl, via_alloc hbw _⟩
      · have hk0 : ((k : Int) == 0) = false := by simp [h0]
        obtain ⟨q, hq⟩ : ∃ q, k = q + 1 := ⟨k - 1, by omega⟩
        have hmx : (if 1 < (k : Int) then (k : Int) - 1 else 0) = (q : Int) := by split <;> omega
        have hql : q < l.length := by omega
        have hqn : q < n := by rw [← hn'.out]; exact hql
        have hxq : l[q]? = some l[q] := List.getElem?_eq_getElem hql
        obtain ⟨m, hme⟩ : ∃ m, l[q] = m := ⟨_, rfl⟩
        rw [hme] at hxq
        obtain ⟨bq, oq, hAq, hblq, hcq⟩ := hat'.out q m hxq
        obtain ⟨rfl, rfl⟩ : b = bq ∧ o = oq := by injection hAq with hAq; injection hAq with e1 e2 _; exact ⟨e1, e2⟩
        have ho := Lib.hid (bef_succ (day := Rd.d) (l := l) (x := ⟨c, d, lo, hi⟩) hq hxq)
        have hD2 := fun W => dayOf_any m W
        obtain ⟨c', d', lo', hi'⟩ := m
        have e0 := hcq 0 _ rfl
        have e1 := hcq 1 _ rfl
        have e2 := hcq 2 _ rfl
        have e3 := hcq 3 _ rfl
        dsimp only at e0 e1 e2 e3 ho hD2
        simp only [Nat.add_zero] at e0
        have hk1 : 1 ≤ k := by omega
        have hD2' := Lib.hid hD2
        clear hD2 h0 hme hcq hAq hxq
        have hq' := Lib.hid hq
        clear hq
        go_wp2_with fail
        refine region_in w 20 (by kernel_rfl) (by kernel_rfl) (by go_grown) ?_
        intro hgc hbx
        simp only [List.take_succ_cons, List.take_zero, List.drop_succ_cons, List.drop_zero]
        repeat (go_big_quiet_step (first
          | (go_at_call 77; exact Grew.call (hE'.out _))
          | (go_at_call 78; with_reducible exact Grew.call (hD'.out _))
          | (go_at_call 78; with_reducible exact Grew.call (hD2'.out _))
          | (go_at_call 36; exact Grew.call_same (unless_any _ _ _))))
        refine wpQuiet_nil ?_
        intro w1 hb1 hbw hsz
        clear hgc hbx
        by_cases hz : firstE [E, unl (decide (d' ≤ d)) 9] = 0
        · have hzz : (firstE [E, unl (decide (d' ≤ d)) 9] != 0) = false := by simp [hz]
          have hz' := Lib.hid hz
          clear hz
          go_wp2_with (go_at_call 33; refine (first2 _ _ _).mono ?_; rintro e w' ⟨rfl, rfl⟩)
          go_roundw
          case rel => exact ⟨k + 1, by omega, by go_num, dated_go hdt hx' ho hEE' hz', via_alloc hbw _⟩
          case measure => simp [intOf]; omega
        · have hzz : (firstE [E, unl (decide (d' ≤ d)) 9] != 0) = true := by simp [hz]
          have hz' := Lib.hid hz
          clear hz
          go_wp2_with (go_at_call 33; refine (first2 _ _ _).mono ?_; rintro e w' ⟨rfl, rfl⟩)
          go_ret2
          exact ⟨ret_two (dated_stop hdt hx' ho hEE' hz') rfl rfl, via_alloc hbw _⟩
    · have hkk : k = n := by omega
      subst hkk
      go_wp2
      go_ret2
      exact ⟨ret_two (dated_end hdt (by rw [hn'.out]; exact Nat.le_refl _)) rfl rfl, hb⟩

set_option maxRecDepth 100000 in
set_option maxHeartbeats 2000000 in
theorem datedM_any (A : Option Addr) (l : List Mv) (cap : Nat) (w : World)
    (hl : l.length ≤ 60) (hs : ∀ x ∈ l, x.f.size ≤ 9223372036854775807 ∧ x.t.size ≤ 9223372036854775807) (hat : At 4 Mv.cs w A l) :
    Calls Tryz.prog 79 #[.slice A l.length cap, .func (.func 80) #[] #[], .func (.func 81) #[] #[]] w fun e w' =>
      e = .returned (.tuple #[.int .i64 (datedE moveE Mv.d l none 0).1, .int .i64 (datedE moveE Mv.d l none 0).2]) ∧ Below w.heap.size w w' := by
  obtain ⟨n, hn⟩ : ∃ n, l.length = n := ⟨_, rfl⟩
  have hn' := Lib.hid hn
  rw [hn] at hl ⊢
  clear hn
  have hs' := Lib.hid hs
  clear hs
  go_enter Tryz.func79, Tryz.ntmps79
  go_wp2
  go_loopw [13] (fun i wr => ∃ k : Nat, k ≤ n ∧ i = .int .i64 k ∧ DatedAt moveE Mv.d l k ∧ Below w.heap.size w wr) (fun i _ => n - (intOf i).toNat)
  case atStart => exact ⟨0, Nat.zero_le _, rfl, rfl, Below.refl _ _⟩
  case round =>
    obtain ⟨k, hk, rfl, hdt, hb⟩ := hrel
    by_cases hlt : k < n
    · have hkl : k < l.length := by rw [hn'.out]; exact hlt
      have hx : l[k]? = some l[k] := List.getElem?_eq_getElem hkl
      obtain ⟨m, hme⟩ : ∃ m, l[k] = m := ⟨_, rfl⟩
      rw [hme] at hx
      have hsx := Lib.hid (hs'.out m (List.mem_of_getElem? hx))
      have hatr := hat.below hb
      obtain ⟨b, o, hA, hbl, hc⟩ := hatr k m hx
      subst hA
      have hat' := Lib.hid hatr
      clear hatr hat
      have hE := fun W => moveErr_any m W hsx.out.1 hsx.out.2
      have hD := fun W => dayOfMove_any m W
      obtain ⟨E, hEE⟩ : ∃ E, moveE m = E := ⟨_, rfl⟩
      have hEE' := Lib.hid hEE
      have hE2 := hE
      clear hE
      rw [hEE] at hE2
      obtain ⟨d, f, t, v⟩ := m
      have c0 := hc 0 _ rfl
      have c1 := hc 1 _ rfl
      have c2 := hc 2 _ rfl
      have c3 := hc 3 _ rfl
      dsimp only at c0 c1 c2 c3 hD hE2
      simp only [Nat.add_zero] at c0
      clear hme hc hEE
      have hx' := Lib.hid hx
      clear hx
      have hD' := Lib.hid hD
      have hE' := Lib.hid hE2
      clear hD hE2
      have hwr := hb.size
      by_cases h0 : k = 0
      · have hk0 : ((k : Int) == 0) = true := by simp [h0]
        have ho := Lib.hid (bef_zero (day := Mv.d) (l := l) (x := ⟨d, f, t, v⟩) h0)
        clear h0
        go_wp2_with fail
        refine region_in w 20 (by kernel_rfl) (by kernel_rfl) (by go_grown) ?_
        intro hgc hbx
        simp only [List.take_succ_cons, List.take_zero, List.drop_succ_cons, List.drop_zero]
        repeat (go_big_quiet_step (first
          | (go_at_call 80; exact Grew.call (hE'.out _))
          | (go_at_call 36; exact Grew.call_same (unless_any _ _ _))))
        refine wpQuiet_nil ?_
        intro w1 hb1 hbw hsz
        clear hgc hbx
        by_cases hz : firstE [E, unl true 9] = 0
        · have hzz : (firstE [E, unl true 9] != 0) = false := by simp [hz]
          have hz' := Lib.hid hz
          clear hz
          go_wp2_with (go_at_call 33; refine (first2 _ _ _).mono ?_; rintro e w' ⟨rfl, rfl⟩)
          go_roundw
          case rel => exact ⟨k + 1, by omega, by go_num, dated_go hdt hx' ho hEE' hz', via_alloc hbw _⟩
          case measure => simp [intOf]; omega
        · have hzz : (firstE [E, unl true 9] != 0) = true := by simp [hz]
          have hz' := Lib.hid hz
          clear hz
          go_wp2_with (go_at_call 33; refine (first2 _ _ _).mono ?_; rintro e w' ⟨rfl, rfl⟩)
          go_ret2
          exact ⟨ret_two (dated_stop hdt hx' ho hEE' hz') rfl rfl, via_alloc hbw _⟩
      · have hk0 : ((k : Int) == 0) = false := by simp [h0]
        obtain ⟨q, hq⟩ : ∃ q, k = q + 1 := ⟨k - 1, by omega⟩
        have hmx : (if 1 < (k : Int) then (k : Int) - 1 else 0) = (q : Int) := by split <;> omega
        have hql : q < l.length := by omega
        have hqn : q < n := by rw [← hn'.out]; exact hql
        have hxq : l[q]? = some l[q] := List.getElem?_eq_getElem hql
        obtain ⟨m, hme⟩ : ∃ m, l[q] = m := ⟨_, rfl⟩
        rw [hme] at hxq
        obtain ⟨bq, oq, hAq, hblq, hcq⟩ := hat'.out q m hxq
        obtain ⟨rfl, rfl⟩ : b = bq ∧ o = oq := by injection hAq with hAq; injection hAq with e1 e2 _; exact ⟨e1, e2⟩
        have ho := Lib.hid (bef_succ (day := Mv.d) (l := l) (x := ⟨d, f, t, v⟩) hq hxq)
        have hD2 := fun W => dayOfMove_any m W
        obtain ⟨d', f', t', v'⟩ := m
        have e0 := hcq 0 _ rfl
        have e1 := hcq 1 _ rfl
        have e2 := hcq 2 _ rfl
        have e3 := hcq 3 _ rfl
        dsimp only at e0 e1 e2 e3 ho hD2
        simp only [Nat.add_zero] at e0
        have hk1 : 1 ≤ k := by omega
        have hD2' := Lib.hid hD2
        clear hD2 h0 hme hcq hAq hxq
        have hq' := Lib.hid hq
        clear hq
        go_wp2_with fail
        refine region_in w 20 (by kernel_rfl) (by kernel_rfl) (by go_grown) ?_
        intro hgc hbx
        simp only [List.take_succ_cons, List.take_zero, List.drop_succ_cons, List.drop_zero]
        repeat (go_big_quiet_step (first
          | (go_at_call 80; exact Grew.call (hE'.out _))
          | (go_at_call 81; with_reducible exact Grew.call (hD'.out _))
          | (go_at_call 81; with_reducible exact Grew.call (hD2'.out _))
          | (go_at_call 36; exact Grew.call_same (unless_any _ _ _))))
        refine wpQuiet_nil ?_
        intro w1 hb1 hbw hsz
        clear hgc hbx
        by_cases hz : firstE [E, unl (decide (d' ≤ d)) 9] = 0
        · have hzz : (firstE [E, unl (decide (d' ≤ d)) 9] != 0) = false := by simp [hz]
          have hz' := Lib.hid hz
          clear hz
          go_wp2_with (go_at_call 33; refine (first2 _ _ _).mono ?_; rintro e w' ⟨rfl, rfl⟩)
          go_roundw
          case rel => exact ⟨k + 1, by omega, by go_num, dated_go hdt hx' ho hEE' hz', via_alloc hbw _⟩
          case measure => simp [intOf]; omega
        · have hzz : (firstE [E, unl (decide (d' ≤ d)) 9] != 0) = true := by simp [hz]
          have hz' := Lib.hid hz
          clear hz
          go_wp2_with (go_at_call 33; refine (first2 _ _ _).mono ?_; rintro e w' ⟨rfl, rfl⟩)
          go_ret2
          exact ⟨ret_two (dated_stop hdt hx' ho hEE' hz') rfl rfl, via_alloc hbw _⟩
    · have hkk : k = n := by omega
      subst hkk
      go_wp2
      go_ret2
      exact ⟨ret_two (dated_end hdt (by rw [hn'.out]; exact Nat.le_refl _)) rfl rfl, hb⟩
end Go.Proofs

set_option linter.unusedSimpArgs false
set_option linter.unusedVariables false
namespace Go.Proofs
open Go.RowKit

/-- The first error of a book that is not of its lists. -/
def bookE (l0 l1 : Int) (n m : Nat) : Int :=
  firstE [unl (within l0 0 100000 && within l1 0 100000) 2, unl (decide (l0 ≤ l1)) 9, unl (decide ((n : Int) ≤ 40) && decide ((m : Int) ≤ 60)) 8]
/-- The mark and the error of a book. -/
def checkB (l0 l1 : Int) (rs : List Rd) (ms : List Mv) : (Int × Int) × Int :=
  if bookE l0 l1 rs.length ms.length = 0 then
    if (datedE rdErr Rd.d rs none 0).2 = 0 then
      if (datedE moveE Mv.d ms none 0).2 = 0 then ((0, 0), 0) else ((2, (datedE moveE Mv.d ms none 0).1), (datedE moveE Mv.d ms none 0).2)
    else ((1, (datedE rdErr Rd.d rs none 0).1), (datedE rdErr Rd.d rs none 0).2)
  else ((0, 0), bookE l0 l1 rs.length ms.length)
def bval (p : (Int × Int) × Int) : Value := .tuple #[.agg #[.int .i64 p.1.1, .int .i64 p.1.2], .int .i64 p.2]

set_option maxRecDepth 100000 in
set_option maxHeartbeats 2000000 in
theorem checkBook_bad (l0 l1 : Int) (A A2 : Option Addr) (n c n2 c2 : Nat) (w : World) (hbad : bookE l0 l1 n n2 ≠ 0) :
    Calls Tryz.prog 52 #[.agg #[.int .i64 l0, .int .i64 l1, .slice A n c, .slice A2 n2 c2]] w fun e w' =>
      e = .returned (bval ((0, 0), bookE l0 l1 n n2)) ∧ Below w.heap.size w w' := by
  unfold bookE at *
  obtain ⟨b1, h1⟩ : ∃ b, within l0 0 100000 = b := ⟨_, rfl⟩
  obtain ⟨b2, h2⟩ : ∃ b, within l1 0 100000 = b := ⟨_, rfl⟩
  obtain ⟨s1, h3⟩ : ∃ b, decide ((n : Int) ≤ 40) = b := ⟨_, rfl⟩
  obtain ⟨s2, h4⟩ : ∃ b, decide ((n2 : Int) ≤ 60) = b := ⟨_, rfl⟩
  have hc : (b1 = false ∨ (b1 = true ∧ b2 = false) ∨ (b1 = true ∧ b2 = true)) ∧ (s1 = false ∨ (s1 = true ∧ s2 = false) ∨ (s1 = true ∧ s2 = true)) := by
    clear h1 h2 h3 h4 hbad; revert b1 b2 s1 s2; decide
  rw [h1, h2, h3, h4] at hbad ⊢
  rcases hc.1 with rfl | ⟨rfl, rfl⟩ | ⟨rfl, rfl⟩ <;> rcases hc.2 with rfl | ⟨rfl, rfl⟩ | ⟨rfl, rfl⟩
  all_goals
    clear hc
    simp only [Bool.and_self, Bool.and_true, Bool.and_false, Bool.true_and, Bool.false_and] at hbad ⊢
    have hzz := bne_iff_ne.2 hbad
    have hbad' := Lib.hid hbad
    clear hbad
    go_enter Tryz.func52, Tryz.ntmps52
    go_wp2_with (go_at_call 43; refine (within_any _ _ _ _).mono ?_; rintro e w' ⟨rfl, rfl⟩)
    refine region_in w 7 (by kernel_rfl) (by kernel_rfl) (by go_grown) ?_
    intro hgc hbx
    simp only [List.take_succ_cons, List.take_zero, List.drop_succ_cons, List.drop_zero]
    repeat (go_big_quiet_step (first
      | (go_at_call 75; exact Grew.call (orderErr_any _ _ _))
      | (go_at_call 36; exact Grew.call_same (unless_any _ _ _))))
    refine wpQuiet_nil ?_
    intro w1 hb hbw hsz
    clear hgc hbx
    have hcc := gcell hb
    have hff := gfrozen hb
    simp only [World.size_alloc] at hsz
    have hz0 : w.heap.size < w1.heap.size := by omega
    have hz1 : w.heap.size + 1 < w1.heap.size := by omega
    go_wp2_with (go_at_call 33; refine (first3 _ _ _ _).mono ?_; rintro e w' ⟨rfl, rfl⟩)
    exact bodyPost_ret (v := bval ((0, 0), _)) (by simp [results, Tryz.results52, go_sem, hcc, hff, hz0, hz1]; rfl) rfl ⟨rfl, by go_grown⟩
end Go.Proofs
