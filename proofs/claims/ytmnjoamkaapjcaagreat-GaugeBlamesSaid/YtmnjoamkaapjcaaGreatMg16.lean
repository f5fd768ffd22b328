import Derived.Test.YtmnjoamkaapjcaaGreatMg15
set_option linter.unusedSimpArgs false
set_option linter.unusedVariables false
namespace Go.Proofs
open Go.RowKit
attribute [local go_sem] Oper.semAt_some

theorem cell_grown {A B : World} {row : Option Nat} {k o : Nat} {v : Value} (h : A.grownBy B row) (hr : ∀ r, row = some r → k < r) (hc : A.cell? ⟨k, o, none⟩ = some v) : B.cell? ⟨k, o, none⟩ = some v := by
  have hk : k < A.heap.size := World.block_lt_of_cell? _ _ hc
  rw [← hc]
  exact World.cell?_of_block (a := ⟨k, o, none⟩) (h.block k hk (fun e => by have := hr k e.symm; omega))
theorem frozen_grown {A B : World} {row : Option Nat} {k o : Nat} {v : Value} {b : Bool} (h : A.grownBy B row) (hr : ∀ r, row = some r → k < r) (hc : A.cell? ⟨k, o, none⟩ = some v) (hf : A.frozen? ⟨k, o, none⟩ = b) : B.frozen? ⟨k, o, none⟩ = b := by
  have hk : k < A.heap.size := World.block_lt_of_cell? _ _ hc
  rw [← hf]
  exact World.frozen?_of_block (a := ⟨k, o, none⟩) (h.block k hk (fun e => by have := hr k e.symm; omega))
theorem below_grown {w A B : World} {row : Option Nat} (hb : Below w.heap.size w A) (h : A.grownBy B row) (hr : ∀ r, row = some r → w.heap.size ≤ r) : Below w.heap.size w B := hb.grown h hb.size hr

theorem stay_alloc (M : Nat → Prop) (W : World) (o : Obj) : Stay M W (W.alloc o) := ⟨by simp, fun k c t f _ h => (Below.heap_alloc W o k (Array.getElem?_eq_some_iff.1 h).1).trans h⟩
/-- What the caller's own cells hold between two rounds. -/
def AreaI (w : World) (pre : List (Int × Int)) (W : World) : Prop :=
  W.cell? ⟨w.heap.size + 1, 0, none⟩ = some (.int .i64 (sumA pre).1) ∧ W.cell? ⟨w.heap.size + 1, 1, none⟩ = some (.int .i64 (sumA pre).2) ∧ W.frozen? ⟨w.heap.size + 1, 0, none⟩ = false ∧ W.frozen? ⟨w.heap.size + 1, 1, none⟩ = false ∧
  W.cell? ⟨w.heap.size, 0, none⟩ = some (.int .i64 0) ∧ W.cell? ⟨w.heap.size, 1, none⟩ = some (.int .i64 0) ∧ W.frozen? ⟨w.heap.size, 0, none⟩ = false ∧ W.frozen? ⟨w.heap.size, 1, none⟩ = false ∧ w.heap.size + 4 ≤ W.heap.size ∧ Below w.heap.size w W
theorem areaI_abide (w : World) (B : Nat) (hB : w.heap.size + 4 ≤ B) : Abide B (AreaI w) := by
  rintro s A W' row ⟨h1, h2, h3, h4, h5, h6, h7, h8, h9, h10⟩ hg hr
  have q0 : ∀ r, row = some r → w.heap.size < r := fun r e => by have := hr r e; omega
  have q1 : ∀ r, row = some r → w.heap.size + 1 < r := fun r e => by have := hr r e; omega
  have q2 : ∀ r, row = some r → w.heap.size ≤ r := fun r e => by have := hr r e; omega
  exact ⟨cell_grown hg q1 h1, cell_grown hg q1 h2, frozen_grown hg q1 h1 h3, frozen_grown hg q1 h2 h4, cell_grown hg q0 h5, cell_grown hg q0 h6, frozen_grown hg q0 h5 h7, frozen_grown hg q0 h6 h8, by have := hg.size; omega, below_grown h10 hg q2⟩

set_option maxRecDepth 100000 in
set_option maxHeartbeats 2000000 in
theorem area_any (c lv : Int) (w : World) (hc0 : 0 ≤ c) (hc1 : c ≤ 1000) (hl0 : -1000 ≤ lv) (hl1 : lv ≤ 1000) :
    Calls Tryz.prog 44 #[.int .i64 c, .int .i64 lv] w fun e w' => e = .returned (.agg #[.int .i64 (areaOf c lv).1, .int .i64 (areaOf c lv).2]) ∧ Below w.heap.size w w' := by
  unfold areaOf
  refine (callsIn_wide (n := 6)).1 ?_
  refine callsIn_of_wp_marks Tryz.func44 rfl trivial ?_ rfl
  simp only [Tryz.ntmps44, List.size_toArray, List.length_cons, List.length_nil, Nat.reduceAdd, Nat.reduceSub, Array.replicate_succ, Array.replicate_zero, List.push_toArray, List.append_toArray, List.nil_append, List.cons_append]
  rcases Int.lt_or_le c lv with hle | hle
  · rw [show min lv c = c by omega]
    gi_wp2_with (refine ⟨trivial, ?_⟩; gi_at_call 66; refine (callsIn_wide.2 (slices_any _ _ _)).mono ?_; rintro e w1 ⟨rfl, rfl⟩)
    have hlbl := slices_stops 5 c c (w.heap.size + 2) (w.heap.size + 3) (· = w.heap.size + 1) ((((w.alloc (.cells #[.int .i64 0, .int .i64 0] 23)).alloc (.cells #[.int .i64 0, .int .i64 0] 23)).alloc (.cells #[.int .i64 c] 91)).alloc (.cells #[.int .i64 c] 3)) (by omega) hc0 hc1 (by omega) (by omega) (by simp [go_sem]) (by simp [go_sem]) (by omega) (by omega) (by intro k hk; simp; omega)
    refine wp_rangeC rfl (by omega) (gf := 96) (lb := #[.pointer (some ⟨w.heap.size + 2, 0, none⟩), .pointer (some ⟨w.heap.size + 3, 0, none⟩)]) rfl trivial (enters_of Tryz.func96 (by kernel_rfl) rfl) hlbl (Below.refl _ _) (fun _ => rfl)
      (AreaI w) (fun _ _ _ => False)
      (fun pre x a W => ∃ Bx, w.heap.size + 4 ≤ Bx ∧ AreaI w pre W ∧ W.cell? ⟨Bx, 0, none⟩ = some (.int .i64 x.1) ∧ W.cell? ⟨Bx, 1, none⟩ = some (.int .i64 x.2) ∧ a = { tmps := #[.int .i64 c, .int .i64 lv, undef, undef, .pointer (some ⟨w.heap.size, 0, none⟩), .pointer (some ⟨w.heap.size + 1, 0, none⟩), .pointer (some ⟨Bx, 0, none⟩), .int .i64 c, .int .i64 lv, .int .i64 c, .int .i64 c, .func (.func 96) #[] #[.pointer (some ⟨w.heap.size + 2, 0, none⟩), .pointer (some ⟨w.heap.size + 3, 0, none⟩)], .agg #[.int .i64 x.1, .int .i64 x.2], undef, undef, undef, undef, undef, undef, undef, undef, undef, undef, undef, undef], defers := [] })
      ?hI1 (fun _ _ _ _ _ hs _ _ => hs) ?hAx1 ?h01 ?assign1 ?body1 ?done1 ?stop1
    case hI1 => exact areaI_abide w _ (by simp)
    case hAx1 =>
      rintro pre x a W l o o' hl ho hc ⟨Bx, hBx, hi, c1, c2, ha⟩
      exact ⟨Bx, hBx, (areaI_abide w (w.heap.size + 4) (Nat.le_refl _)) _ _ _ (some l) hi (grownBy_putObj' W l o') (fun r e => by cases e; simpa using hl), cell_putObj o' ho hc c1, cell_putObj o' ho hc c2, ha⟩
    case h01 => exact ⟨by simp [go_sem, sumA], by simp [go_sem, sumA], by simp [go_sem], by simp [go_sem], by simp [go_sem], by simp [go_sem], by simp [go_sem], by simp [go_sem], by simp, by go_grown⟩
    case assign1 =>
      intro l pre x W hi hlen hok
      have hok' := Lib.hid hok
      clear hok
      gi_wp2
      exact ⟨KeepsOthers.alloc _ _, stay_alloc _ _ _, W.heap.size, hi.2.2.2.2.2.2.2.2.1, (areaI_abide w (w.heap.size + 4) (Nat.le_refl _)) _ _ _ none hi ⟨rfl, rfl, rfl, by simp, fun k hk _ => Below.heap_alloc W _ k hk⟩ (fun r e => by cases e), by simp [go_sem], by simp [go_sem], rfl⟩
    case body1 =>
      rintro l pre x a W ⟨Bx, hBx, hi, c1, c2, rfl⟩ hlen hok
      have hok' := Lib.hid hok
      clear hok
      obtain ⟨i1, i2, i3, i4, i5, i6, i7, i8, i9, i10⟩ := hi
      have hbd := sumA_bd c hc0 hc1 pre.length (by omega)
      rw [← hok'.out.1] at hbd
      have hxb := strip_bd c pre.length hc0 hc1 (by omega)
      rw [← hok'.out.2] at hxb
      have hsn := Lib.hid (sumA_snoc pre x)
      obtain ⟨x1, x2⟩ := x
      dsimp only at c1 c2 hxb hsn
      generalize hS : sumA pre = S at *
      obtain ⟨S1, S2⟩ := S
      dsimp only at hbd i1 i2 hsn
      obtain ⟨b1, b2, b3, b4⟩ := hbd
      obtain ⟨y1, y2, y3, y4⟩ := hxb
      have hlen2 : pre.length ≤ 2000 := by omega
      clear hS
      gi_wp2
      exact ⟨(KeepsOthers.setCell _ _ _).trans (KeepsOthers.setCell _ _ _), by refine Stay.trans (Stay.setCell _ _ ?_) (Stay.setCell _ _ ?_) <;> rfl, by rw [hsn.out]; simp [go_sem, i1], by rw [hsn.out]; simp [go_sem, i2], by simp [go_sem, i3], by simp [go_sem, i4], by simp [go_sem, i5], by simp [go_sem, i6], by simp [go_sem, i7], by simp [go_sem, i8], by simpa using i9, by go_grown⟩
    case done1 =>
      rintro D xs W rfl hi rfl hK
      have hi' := hi
      obtain ⟨i1, i2, i3, i4, i5, i6, i7, i8, i9, i10⟩ := hi
      gi_wp2
      obtain ⟨a1, ha1⟩ : ∃ x, (sumA (strips c (c + c).toNat)).1 = x := ⟨_, rfl⟩
      obtain ⟨a2, ha2⟩ : ∃ x, (sumA (strips c (c + c).toNat)).2 = x := ⟨_, rfl⟩
      rw [ha1, ha2]
      have hK2 := ((KeepsOthers.setCell W ⟨w.heap.size, 0, none⟩ (.int .i64 a1)).trans (KeepsOthers.setCell _ ⟨w.heap.size, 1, none⟩ (.int .i64 a2))).same _ _ hK rfl
      refine ⟨by simp, .inl ⟨_, _, rfl, run_takeDeferred hK2, ?_⟩⟩
      have r1 := cell_putObj (k := w.heap.size) (i := 0) (v := .int .i64 a1) (.deferred none) hK2 rfl (by simp [go_sem, i5])
      have r2 := cell_putObj (k := w.heap.size) (i := 1) (v := .int .i64 a2) (.deferred none) hK2 rfl (by simp [go_sem, i6])
      have hbb : Below w.heap.size w ((W.setCell ⟨w.heap.size, 0, none⟩ (.int .i64 a1)).setCell ⟨w.heap.size, 1, none⟩ (.int .i64 a2)) := by go_grown
      refine ⟨.agg #[.int .i64 a1, .int .i64 a2], ?_, rfl, hbb.grown (grownBy_putObj' _ _ _) hbb.size (fun r e => by cases e; simp; omega)⟩
      generalize ((W.setCell ⟨w.heap.size, 0, none⟩ (.int .i64 a1)).setCell ⟨w.heap.size, 1, none⟩ (.int .i64 a2)).putObj _ _ = W9 at *
      simp [results, Tryz.results44, go_sem, r1, r2]
    case stop1 =>
      rintro D c pre W _ h
      exact h.elim
  · rw [show min lv c = lv by omega]
    gi_wp2_with (refine ⟨trivial, ?_⟩; gi_at_call 66; refine (callsIn_wide.2 (slices_any _ _ _)).mono ?_; rintro e w1 ⟨rfl, rfl⟩)
    have hlbl := slices_stops 5 c lv (w.heap.size + 2) (w.heap.size + 3) (· = w.heap.size + 1) ((((w.alloc (.cells #[.int .i64 0, .int .i64 0] 23)).alloc (.cells #[.int .i64 0, .int .i64 0] 23)).alloc (.cells #[.int .i64 c] 91)).alloc (.cells #[.int .i64 lv] 3)) (by omega) hc0 hc1 (by omega) (by omega) (by simp [go_sem]) (by simp [go_sem]) (by omega) (by omega) (by intro k hk; simp; omega)
    refine wp_rangeC rfl (by omega) (gf := 96) (lb := #[.pointer (some ⟨w.heap.size + 2, 0, none⟩), .pointer (some ⟨w.heap.size + 3, 0, none⟩)]) rfl trivial (enters_of Tryz.func96 (by kernel_rfl) rfl) hlbl (Below.refl _ _) (fun _ => rfl)
      (AreaI w) (fun _ _ _ => False)
      (fun pre x a W => ∃ Bx, w.heap.size + 4 ≤ Bx ∧ AreaI w pre W ∧ W.cell? ⟨Bx, 0, none⟩ = some (.int .i64 x.1) ∧ W.cell? ⟨Bx, 1, none⟩ = some (.int .i64 x.2) ∧ a = { tmps := #[.int .i64 c, .int .i64 lv, undef, undef, .pointer (some ⟨w.heap.size, 0, none⟩), .pointer (some ⟨w.heap.size + 1, 0, none⟩), .pointer (some ⟨Bx, 0, none⟩), .int .i64 c, .int .i64 lv, .int .i64 c, .int .i64 lv, .func (.func 96) #[] #[.pointer (some ⟨w.heap.size + 2, 0, none⟩), .pointer (some ⟨w.heap.size + 3, 0, none⟩)], .agg #[.int .i64 x.1, .int .i64 x.2], undef, undef, undef, undef, undef, undef, undef, undef, undef, undef, undef, undef], defers := [] })
      ?hI2 (fun _ _ _ _ _ hs _ _ => hs) ?hAx2 ?h02 ?assign2 ?body2 ?done2 ?stop2
    case hI2 => exact areaI_abide w _ (by simp)
    case hAx2 =>
      rintro pre x a W l o o' hl ho hc ⟨Bx, hBx, hi, c1, c2, ha⟩
      exact ⟨Bx, hBx, (areaI_abide w (w.heap.size + 4) (Nat.le_refl _)) _ _ _ (some l) hi (grownBy_putObj' W l o') (fun r e => by cases e; simpa using hl), cell_putObj o' ho hc c1, cell_putObj o' ho hc c2, ha⟩
    case h02 => exact ⟨by simp [go_sem, sumA], by simp [go_sem, sumA], by simp [go_sem], by simp [go_sem], by simp [go_sem], by simp [go_sem], by simp [go_sem], by simp [go_sem], by simp, by go_grown⟩
    case assign2 =>
      intro l pre x W hi hlen hok
      have hok' := Lib.hid hok
      clear hok
      gi_wp2
      exact ⟨KeepsOthers.alloc _ _, stay_alloc _ _ _, W.heap.size, hi.2.2.2.2.2.2.2.2.1, (areaI_abide w (w.heap.size + 4) (Nat.le_refl _)) _ _ _ none hi ⟨rfl, rfl, rfl, by simp, fun k hk _ => Below.heap_alloc W _ k hk⟩ (fun r e => by cases e), by simp [go_sem], by simp [go_sem], rfl⟩
    case body2 =>
      rintro l pre x a W ⟨Bx, hBx, hi, c1, c2, rfl⟩ hlen hok
      have hok' := Lib.hid hok
      clear hok
      obtain ⟨i1, i2, i3, i4, i5, i6, i7, i8, i9, i10⟩ := hi
      have hbd := sumA_bd c hc0 hc1 pre.length (by omega)
      rw [← hok'.out.1] at hbd
      have hxb := strip_bd c pre.length hc0 hc1 (by omega)
      rw [← hok'.out.2] at hxb
      have hsn := Lib.hid (sumA_snoc pre x)
      obtain ⟨x1, x2⟩ := x
      dsimp only at c1 c2 hxb hsn
      generalize hS : sumA pre = S at *
      obtain ⟨S1, S2⟩ := S
      dsimp only at hbd i1 i2 hsn
      obtain ⟨b1, b2, b3, b4⟩ := hbd
      obtain ⟨y1, y2, y3, y4⟩ := hxb
      have hlen2 : pre.length ≤ 2000 := by omega
      clear hS
      gi_wp2
      exact ⟨(KeepsOthers.setCell _ _ _).trans (KeepsOthers.setCell _ _ _), by refine Stay.trans (Stay.setCell _ _ ?_) (Stay.setCell _ _ ?_) <;> rfl, by rw [hsn.out]; simp [go_sem, i1], by rw [hsn.out]; simp [go_sem, i2], by simp [go_sem, i3], by simp [go_sem, i4], by simp [go_sem, i5], by simp [go_sem, i6], by simp [go_sem, i7], by simp [go_sem, i8], by simpa using i9, by go_grown⟩
    case done2 =>
      rintro D xs W rfl hi rfl hK
      have hi' := hi
      obtain ⟨i1, i2, i3, i4, i5, i6, i7, i8, i9, i10⟩ := hi
      gi_wp2
      obtain ⟨a1, ha1⟩ : ∃ x, (sumA (strips c (lv + c).toNat)).1 = x := ⟨_, rfl⟩
      obtain ⟨a2, ha2⟩ : ∃ x, (sumA (strips c (lv + c).toNat)).2 = x := ⟨_, rfl⟩
      rw [ha1, ha2]
      have hK2 := ((KeepsOthers.setCell W ⟨w.heap.size, 0, none⟩ (.int .i64 a1)).trans (KeepsOthers.setCell _ ⟨w.heap.size, 1, none⟩ (.int .i64 a2))).same _ _ hK rfl
      refine ⟨by simp, .inl ⟨_, _, rfl, run_takeDeferred hK2, ?_⟩⟩
      have r1 := cell_putObj (k := w.heap.size) (i := 0) (v := .int .i64 a1) (.deferred none) hK2 rfl (by simp [go_sem, i5])
      have r2 := cell_putObj (k := w.heap.size) (i := 1) (v := .int .i64 a2) (.deferred none) hK2 rfl (by simp [go_sem, i6])
      have hbb : Below w.heap.size w ((W.setCell ⟨w.heap.size, 0, none⟩ (.int .i64 a1)).setCell ⟨w.heap.size, 1, none⟩ (.int .i64 a2)) := by go_grown
      refine ⟨.agg #[.int .i64 a1, .int .i64 a2], ?_, rfl, hbb.grown (grownBy_putObj' _ _ _) hbb.size (fun r e => by cases e; simp; omega)⟩
      generalize ((W.setCell ⟨w.heap.size, 0, none⟩ (.int .i64 a1)).setCell ⟨w.heap.size, 1, none⟩ (.int .i64 a2)).putObj _ _ = W9 at *
      simp [results, Tryz.results44, go_sem, r1, r2]
    case stop2 =>
      rintro D c pre W _ h
      exact h.elim
end Go.Proofs

set_option linter.unusedSimpArgs false
set_option linter.unusedVariables false
namespace Go.Proofs
open Go.RowKit

def areaE (r l : Int) : Int := if within r 10 800 && within l (-r) r then 0 else 2
def areaV (r l : Int) : Int × Int := if areaE r l = 0 then areaOf r l else (0, 0)
theorem within_true {n lo hi : Int} (h : within n lo hi = true) : lo ≤ n ∧ n ≤ hi := by unfold within at h; simp at h; omega

set_option maxRecDepth 100000 in
set_option maxHeartbeats 1000000 in
theorem areaTo_any (r l : Int) (w : World) :
    Calls Tryz.prog 18 #[.int .i64 r, .int .i64 l] w fun e w' => e = .returned (.tuple #[.agg #[.int .i64 (areaV r l).1, .int .i64 (areaV r l).2], .int .i64 (areaE r l)]) ∧ Below w.heap.size w w' := by
  unfold areaV areaE
  obtain ⟨b1, h1⟩ : ∃ b, within r 10 800 = b := ⟨_, rfl⟩
  obtain ⟨b2, h2⟩ : ∃ b, within l (-r) r = b := ⟨_, rfl⟩
  rw [h1, h2]
  cases b1
  · simp only [Bool.false_and]
    go_enter Tryz.func18, Tryz.ntmps18
    go_wp2_with (first
      | (go_at_call 42; refine (isRadius_any _ _ _).mono ?_; rintro e w' ⟨rfl, rfl⟩)
      | (go_at_call 43; refine (within_any _ _ _ _).mono ?_; rintro e w' ⟨rfl, rfl⟩))
    refine bodyPost_ret (v := .tuple #[.agg #[.int .i64 0, .int .i64 0], .int .i64 2]) ?_ rfl ⟨rfl, ?_⟩
    · simp [results, Tryz.results18, go_sem]
    · go_grown
  · obtain ⟨hr1, hr2⟩ := within_true h1
    cases b2
    · simp only [Bool.and_false]
      go_enter Tryz.func18, Tryz.ntmps18
      go_wp2_with (first
        | (go_at_call 42; refine (isRadius_any _ _ _).mono ?_; rintro e w' ⟨rfl, rfl⟩)
        | (go_at_call 43; refine (within_any _ _ _ _).mono ?_; rintro e w' ⟨rfl, rfl⟩))
      refine bodyPost_ret (v := .tuple #[.agg #[.int .i64 0, .int .i64 0], .int .i64 2]) ?_ rfl ⟨rfl, ?_⟩
      · simp [results, Tryz.results18, go_sem]
      · go_grown
    · obtain ⟨hl1, hl2⟩ := within_true h2
      simp only [Bool.and_self, if_true]
      have hA := fun W => area_any r l W (by omega) (by omega) (by omega) (by omega)
      generalize areaOf r l = a at *
      obtain ⟨a1, a2⟩ := a
      dsimp only at *
      have hA' := Lib.hid hA
      clear hA
      go_enter Tryz.func18, Tryz.ntmps18
      go_wp2_with (first
        | (go_at_call 42; refine (isRadius_any _ _ _).mono ?_; rintro e w' ⟨rfl, rfl⟩)
        | (go_at_call 43; refine (within_any _ _ _ _).mono ?_; rintro e w' ⟨rfl, rfl⟩)
        | (go_at_call 44; refine (hA'.out _).mono ?_; rintro e w1 ⟨rfl, hb⟩; have hcc := gcell hb; have hff := gfrozen hb; have hz0 : w.heap.size < w1.heap.size := (by have := hb.size; simp at this; omega); have hbw := via (by go_grown : Below w.heap.size w _) hb))
      refine bodyPost_ret (v := .tuple #[.agg #[.int .i64 a1, .int .i64 a2], .int .i64 0]) ?_ rfl ⟨rfl, ?_⟩
      · simp [results, Tryz.results18, go_sem, hcc, hff, hz0]
      · go_grown
end Go.Proofs
