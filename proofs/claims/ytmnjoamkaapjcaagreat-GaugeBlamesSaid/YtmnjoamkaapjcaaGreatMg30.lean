import Derived.Test.YtmnjoamkaapjcaaGreatMg29
import Derived.Sort.OwnSortedInts
set_option linter.unusedSimpArgs false
set_option linter.unusedVariables false
namespace Go.Proofs
open Go.RowKit

set_option maxRecDepth 100000 in
set_option maxHeartbeats 1000000 in
theorem indexFunc_any (A : Option Addr) (l : List (Nat × Nat)) (c S D : Nat) (f : Nat × Nat → Bool) (w : World) (hl : l.length ≤ 1000000) (hat : At 2 Pc w A l)
    (hC : ∀ p ∈ l, ∀ W, Below w.heap.size w W → Calls Tryz.prog 31 #[.agg #[.int .i64 p.1, .int .i64 p.2], .pointer (some ⟨S, 0, none⟩), .pointer (some ⟨D, 0, none⟩)] W fun e w' => e = .returned (.bool (f p)) ∧ Below W.heap.size W w') :
    Calls Tryz.prog 56 #[.slice A l.length c, .func (.func 31) #[] #[.pointer (some ⟨S, 0, none⟩), .pointer (some ⟨D, 0, none⟩)]] w fun e w' => (∃ r : Int, e = .returned (.int .i64 r) ∧ decide (0 ≤ r) = l.any f) ∧ Below w.heap.size w w' := by
  have hC' := Lib.hid hC
  have hat' := Lib.hid hat
  obtain ⟨n, hn⟩ : ∃ n, l.length = n := ⟨_, rfl⟩
  have hn' := Lib.hid hn
  rw [hn] at hl ⊢
  clear hat hC hn
  go_enter Tryz.func56, Tryz.ntmps56
  go_wp2_with fail
  go_loopw [8] (fun i wr => ∃ k : Nat, k ≤ n ∧ i = .int .i64 k ∧ Hid (((l.take k).any f) = false) ∧ Below w.heap.size w wr) (fun i _ => n - (intOf i).toNat)
  case atStart => exact ⟨0, Nat.zero_le _, rfl, rfl, Below.refl _ _⟩
  case round =>
    obtain ⟨k, hk, rfl, hno, hbw⟩ := hrel
    by_cases hlt : k < n
    · obtain ⟨y, hy⟩ : ∃ y, l[k]? = some y := ⟨_, List.getElem?_eq_getElem (by rw [hn'.out]; exact hlt)⟩
      obtain ⟨b, o, rfl, hbb, hc⟩ := hat'.out.below hbw k y hy
      have hCy := Lib.hid fun W hb => hC'.out y (List.mem_of_getElem? hy) W hb
      obtain ⟨q, hq⟩ : ∃ q, f y = q := ⟨_, rfl⟩
      have hnext : Hid (((l.take (k + 1)).any f) = q) := by
        obtain ⟨hk', he⟩ := List.getElem?_eq_some_iff.1 hy
        unfold Hid
        rw [List.take_succ_eq_append_getElem hk', List.any_append, he, hno.out]
        simpa using hq
      have hall : Hid (q = true → (l.any f) = true) := fun h => by
        rw [List.any_eq_true]
        exact ⟨y, List.mem_of_getElem? hy, by rw [hq, h]⟩
      rw [hq] at hCy
      have y0 := hc 0 _ rfl
      have y1 := hc 1 _ rfl
      simp only [Nat.add_zero] at y0
      have hkI : (k : Int) < (n : Int) := by omega
      clear hc hy hq hno hC'
      cases q
      · go_wp2_with (go_at_call 31; refine (hCy.out _ hbw).mono ?_; rintro e w1 ⟨rfl, hb⟩; have hbw := via hbw hb)
        go_roundw
        case rel => exact ⟨k + 1, by omega, by go_num, hnext, hbw⟩
        case measure => simp [intOf]; omega
      · have ht := hall.out rfl
        go_wp2_with (go_at_call 31; refine (hCy.out _ hbw).mono ?_; rintro e w1 ⟨rfl, hb⟩; have hbw := via hbw hb)
        go_ret
        exact ⟨⟨k, rfl, by rw [ht]; simp⟩, hbw⟩
    · have hkn : k = n := by omega
      subst hkn
      have hno2 := hno.out
      rw [List.take_of_length_le (by rw [hn'.out]; exact Nat.le_refl _)] at hno2
      have hno3 := Lib.hid hno2
      clear hno hno2 hC'
      go_wp2
      go_ret
      exact ⟨⟨-1, rfl, by rw [hno3.out]; decide⟩, hbw⟩
set_option maxRecDepth 100000 in
set_option maxHeartbeats 1000000 in
theorem containsFunc_any (A : Option Addr) (l : List (Nat × Nat)) (c S D : Nat) (f : Nat × Nat → Bool) (w : World) (hl : l.length ≤ 1000000) (hat : At 2 Pc w A l)
    (hC : ∀ p ∈ l, ∀ W, Below w.heap.size w W → Calls Tryz.prog 31 #[.agg #[.int .i64 p.1, .int .i64 p.2], .pointer (some ⟨S, 0, none⟩), .pointer (some ⟨D, 0, none⟩)] W fun e w' => e = .returned (.bool (f p)) ∧ Below W.heap.size W w') :
    Calls Tryz.prog 30 #[.slice A l.length c, .func (.func 31) #[] #[.pointer (some ⟨S, 0, none⟩), .pointer (some ⟨D, 0, none⟩)]] w fun e w' => e = .returned (.bool (l.any f)) ∧ Below w.heap.size w w' := by
  have hI := indexFunc_any A l c S D f w hl hat hC
  generalize (l.any f) = q at *
  generalize l.length = n at *
  clear hat hC
  go_enter Tryz.func30, Tryz.ntmps30
  go_wp2_with (go_at_call 56; refine hI.mono ?_; rintro e w1 ⟨⟨r, rfl, hr⟩, hb⟩)
  go_ret
  exact ⟨rfl, hb⟩
/-- All pairs: none of which a set misses just if it covers them. -/
theorem missed_eq {P : List (Nat × Nat)} {n : Nat} (hP : ∀ p ∈ P, p.1 < n ∧ p.2 < n) (v : List Bool) (ix : Nat → Nat) (hix : ∀ p ∈ P, (inI P n)[ix p.1]? = some (p.1 : Int) ∧ (inI P n)[ix p.2]? = some (p.2 : Int)) :
    (P.any fun p => gotV v (ix p.1) (ix p.2)) = !(covV P n v) := by
  unfold covV cov gotV
  have key : ∀ p ∈ P, (!(v.getD (ix p.1) false) && !(v.getD (ix p.2) false)) = !((sel (inI P n) v).contains (p.1 : Int) || (sel (inI P n) v).contains (p.2 : Int)) := fun p hp => by
    rw [sel_has (inI_up P n) (hix p hp).1, sel_has (inI_up P n) (hix p hp).2, Bool.not_or]
  rw [Bool.eq_iff_iff, Bool.not_eq_true', ← Bool.not_eq_true, List.any_eq_true, List.all_eq_true]
  constructor
  · rintro ⟨p, hp, h⟩ hall
    rw [key p hp, hall p hp] at h
    cases h
  · intro h
    apply Decidable.byContradiction
    intro hno
    apply h
    intro p hp
    cases hc : ((sel (inI P n) v).contains (p.1 : Int) || (sel (inI P n) v).contains (p.2 : Int)) with
    | true => rfl
    | false => exact absurd ⟨p, hp, by rw [key p hp, hc]; rfl⟩ hno
theorem idx_mem : ∀ {l : List Int} {x : Int}, x ∈ l → l[l.idxOf x]? = some x
  | a :: l, x, h => by
    rw [List.idxOf_cons]
    by_cases e : a = x
    · subst e; simp
    · have e' : (a == x) = false := by simpa using e
      rw [e']
      have : x ∈ l := by
        rcases List.mem_cons.1 h with rfl | h
        · exact absurd rfl e
        · exact h
      simpa using idx_mem this
theorem inI_ix {P : List (Nat × Nat)} {n : Nat} (hP : ∀ p ∈ P, p.1 < n ∧ p.2 < n) : ∃ ix : Nat → Nat, ∀ p ∈ P, (inI P n)[ix p.1]? = some (p.1 : Int) ∧ (inI P n)[ix p.2]? = some (p.2 : Int) := by
  refine ⟨fun i => (inI P n).idxOf (i : Int), fun p hp => ?_⟩
  have t : touches P p.1 = true ∧ touches P p.2 = true := by
    unfold touches
    rw [List.any_eq_true, List.any_eq_true]
    exact ⟨⟨p, hp, by simp⟩, ⟨p, hp, by simp⟩⟩
  have m1 := mem_inI.2 ⟨p.1, rfl, (hP p hp).1, t.1⟩
  have m2 := mem_inI.2 ⟨p.2, rfl, (hP p hp).2, t.2⟩
  exact ⟨idx_mem m1, idx_mem m2⟩
/-! The search, set by set. -/
def bestTo (C : List Bool → Bool) (k t : Nat) : List Bool := ((subs k).take t).foldl (better C) (List.replicate k true)
theorem bestTo_mem (C : List Bool → Bool) (k : Nat) : ∀ t, bestTo C k t ∈ subs k := by
  have gen : ∀ (l : List (List Bool)) (b : List Bool), b ∈ subs k → (∀ v ∈ l, v ∈ subs k) → l.foldl (better C) b ∈ subs k := by
    intro l
    induction l with
    | nil => exact fun b hb _ => hb
    | cons u l ih =>
      intro b hb h
      rw [List.foldl_cons]
      refine ih _ ?_ (fun v hv => h v (List.mem_cons_of_mem _ hv))
      unfold better
      split
      · exact h u (List.mem_cons_self ..)
      · exact hb
  intro t
  refine gen _ _ ?_ (fun v hv => List.mem_of_mem_take hv)
  have := subs_mem (List.replicate k true)
  rwa [List.length_replicate] at this
theorem bestTo_succ {C : List Bool → Bool} {k t : Nat} {v : List Bool} (h : (subs k)[t]? = some v) : bestTo C k (t + 1) = better C (bestTo C k t) v := by
  unfold bestTo
  rw [List.take_add_one, h, List.foldl_append]
  rfl
theorem bestTo_all (C : List Bool → Bool) (k : Nat) {t : Nat} (h : (subs k).length ≤ t) : bestTo C k t = bestV C k := by
  unfold bestTo bestV
  rw [List.take_of_length_le h]
theorem subs_length : ∀ k, (subs k).length = 2 ^ k
  | 0 => rfl
  | k + 1 => by
    unfold subs
    rw [List.length_append, List.length_map, List.length_map, subs_length k, Nat.pow_succ]
    omega
end Go.Proofs

set_option linter.unusedSimpArgs false
set_option linter.unusedVariables false
namespace Go.Proofs
open Go.RowKit

theorem flat_ints (l : List Int) : l.flatMap Ic = l.map (Value.int .i64) := by
  induction l with
  | nil => rfl
  | cons a l ih => rw [List.flatMap_cons, List.map_cons, ih]; rfl
theorem grown_setCells (b : Nat) : ∀ (vs : List Value) (o : Nat) (w : World), w.grownBy (w.setCells b o vs) (some b)
  | [], o, w => ⟨rfl, rfl, rfl, Nat.le_refl _, fun k _ _ => rfl⟩
  | v :: vs, o, w => by
    have h := grown_setCells b vs (o + 1) (w.setCell ⟨b, o, none⟩ v)
    refine ⟨h.os, h.tape, h.output, by have := h.size; rw [World.setCells]; simpa using this, fun k hk hne => ?_⟩
    exact (h.block k (by simpa using hk) hne).trans (Below.heap_setCell w _ v k (fun e => hne (by rw [e])))
theorem sortOwn_any (base : Nat) (v : Value) (zs : List Int) (w : World) (hl : zs.length ≤ 1000) (hown : w.ownsRow base 3 1 v zs.length (zs.flatMap Ic)) :
    Calls Tryz.prog 26 #[v] w fun e w' => e = .returned (.tuple #[]) ∧ w'.ownsRow base 3 1 v zs.length ((sortI zs).flatMap Ic) ∧ w.grownBy w' v.ownBlock := by
  rw [flat_ints] at hown ⊢
  rcases hown.2 with ⟨rfl, hn⟩ | ⟨g, cap, cur, rfl, hb, hg, hnc, hcm, hcs, ht⟩
  · have : zs = [] := List.eq_nil_of_length_eq_zero hn
    subst this
    refine (Tryz.slices_Sort_int_none none 0 w).mono ?_
    rintro e w' ⟨rfl, rfl⟩
    refine ⟨rfl, ?_, rfl, rfl, rfl, Nat.le_refl _, fun k _ _ => rfl⟩
    have e : sortI [] = [] := List.eq_nil_of_length_eq_zero (by rw [sortI_len]; rfl)
    rw [e]
    exact World.ownsRow_nil _ _ _ _
  · rw [Nat.mul_one] at ht
    refine (Tryz.slices_Sort_int g 0 cap zs w (holds_of_blockI hg ht) (lt_of_block hg) (by omega)).mono ?_
    rintro e w' ⟨rfl, n, os, rfl⟩
    refine ⟨rfl, ?_, grownBy_sortedI _⟩
    exact ownsRow_sortedI (sortI_len zs) hb hg hnc hcm hcs
theorem compactOwn_any (base : Nat) (v : Value) (zs : List Int) (w : World) (hl : zs.length ≤ 1000) (hown : w.ownsRow base 3 1 v zs.length (zs.flatMap Ic)) :
    Calls Tryz.prog 27 #[v] w fun e w' => (∃ A c, e = .returned (.slice A (Lib.compact zs).length c) ∧ At 1 Ic w' A (Lib.compact zs) ∧ ∀ p, A = some p → base ≤ p.block) ∧ w.grownBy w' v.ownBlock := by
  rw [flat_ints] at hown
  rcases hown.2 with ⟨rfl, hn⟩ | ⟨g, cap, cur, rfl, hb, hg, hnc, hcm, hcs, ht⟩
  · have : zs = [] := List.eq_nil_of_length_eq_zero hn
    subst this
    refine (Tryz.slices_Compact_int_empty none 0 w).mono ?_
    rintro e w' ⟨rfl, rfl⟩
    exact ⟨⟨none, 0, rfl, (fun k x hx => by simp [Lib.compact, Lib.compactUpTo] at hx), (fun p hp => by cases hp)⟩, rfl, rfl, rfl, Nat.le_refl _, fun k _ _ => rfl⟩
  · have hcell : ∀ j, j < zs.length → w.cell? ⟨g, 0 + j, none⟩ = some (.int .i64 (zs.getD j 0)) := by
      intro j hj
      rw [Nat.zero_add, hown.cellAt _ (by simpa using hj)]
      simp [List.getD, List.getElem?_eq_getElem hj]
    refine (Tryz.slices_Compact_int_cells g 0 zs.length cap zs w (Nat.le_refl _) (by omega) hnc hcell (fun j _ => by simp [World.frozen?, hg])).mono ?_
    rintro e w' ⟨rfl, q, rfl⟩
    rw [List.take_of_length_le (Nat.le_refl _)]
    have hcl : (Lib.compact zs).length ≤ zs.length := by
      unfold Lib.compact Lib.compactUpTo
      rw [List.length_map]
      exact Nat.le_trans (List.length_filter_le _ _) (by simp)
    refine ⟨⟨some ⟨g, 0, none⟩, cap, rfl, ?_, ?_⟩, ?_⟩
    · intro k x hx
      have hk : k < (Lib.compact zs).length := (List.getElem?_eq_some_iff.1 hx).1
      refine ⟨g, 0, rfl, ?_, ?_⟩
      · exact Nat.lt_of_lt_of_le (lt_of_block hg) (grown_setCells g _ 0 (w.drewN q)).size
      · intro j u hu
        match j, hu with
        | 0, hu =>
          simp only [Ic, List.getElem?_cons_zero, Option.some.injEq] at hu
          subst hu
          have := World.cell?_setCells_in g (((Lib.compact zs) ++ List.replicate (zs.length - (Lib.compact zs).length) 0).map (Value.int .i64)) 0 (w.drewN q) (fun j hj => by
            rw [World.cell?_drewN, hcell j (by simp at hj; omega)]
            rfl) k (by simp; omega)
          rw [Nat.mul_one, Nat.add_zero, this]
          congr 1
          rw [List.getElem_map, List.getElem_append_left hk]
          have := (List.getElem?_eq_some_iff.1 hx).2
          rw [this]
    · intro p hp
      injection hp with hp
      subst hp
      exact hb
    · have h := grown_setCells g (((Lib.compact zs) ++ List.replicate (zs.length - (Lib.compact zs).length) 0).map (Value.int .i64)) 0 (w.drewN q)
      exact ⟨h.os, h.tape, h.output, h.size, h.block⟩
end Go.Proofs
