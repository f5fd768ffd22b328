import Derived.Test.YtmnjoamkaapjcaaGreatMg7
import Derived.Test.YtmnjoamkaapjcaaGreatMg8
import Derived.Test.YtmnjoamkaapjcaaGreatMg3
import Derived.Lib.SlicesCompact
set_option linter.unusedSimpArgs false
set_option linter.unusedVariables false
namespace Go.Proofs
open Go.RowKit

theorem cell_below0 {w w' : World} {p : Addr} {v : Value} (h : w.cell? p = some v) (hb : Below w.heap.size w w') : w'.cell? p = some v := (hb.cell (World.block_lt_of_cell? _ _ h)).trans h
def okUp : Option Int → Int → Bool
  | none, _ => true
  | some b, x => decide (b < x)
/-- The error of numbers of gaugings: each is one of n, and they rise. -/
def lstE (n : Nat) : Option Int → List Int → Int
  | _, [] => 0
  | b, x :: l => if firstE [unl (within x 0 ((n : Int) - 1)) 6, unl (okUp b x) 9] = 0 then lstE n (some x) l else firstE [unl (within x 0 ((n : Int) - 1)) 6, unl (okUp b x) 9]
def bfr (l : List Int) (k : Nat) : Option Int := if k = 0 then none else l[k - 1]?
def LstAt (n : Nat) (l : List Int) (k : Nat) : Prop := lstE n none l = lstE n (bfr l k) (l.drop k)
theorem lst_here {n : Nat} {l : List Int} {k : Nat} {x : Int} (h : LstAt n l k) (hx : l[k]? = some x) : lstE n none l = if firstE [unl (within x 0 ((n : Int) - 1)) 6, unl (okUp (bfr l k) x) 9] = 0 then lstE n (bfr l (k + 1)) (l.drop (k + 1)) else firstE [unl (within x 0 ((n : Int) - 1)) 6, unl (okUp (bfr l k) x) 9] := by
  unfold LstAt at h
  obtain ⟨hi, hx'⟩ := List.getElem?_eq_some_iff.1 hx
  rw [h, List.drop_eq_getElem_cons hi, hx']
  have e : bfr l (k + 1) = some x := by unfold bfr; rw [if_neg (by omega), Nat.add_sub_cancel, hx]
  rw [e]
  rfl
theorem lst_go {n : Nat} {l : List Int} {k : Nat} {x : Int} (h : LstAt n l k) (hx : l[k]? = some x) {o : Bool} (ho : okUp (bfr l k) x = o) (hz : firstE [unl (within x 0 ((n : Int) - 1)) 6, unl o 9] = 0) : LstAt n l (k + 1) := by
  have := lst_here h hx
  rw [ho, if_pos hz] at this
  exact this
theorem lst_stop {n : Nat} {l : List Int} {k : Nat} {x : Int} (h : LstAt n l k) (hx : l[k]? = some x) {o : Bool} (ho : okUp (bfr l k) x = o) (hz : ¬ firstE [unl (within x 0 ((n : Int) - 1)) 6, unl o 9] = 0) : lstE n none l = firstE [unl (within x 0 ((n : Int) - 1)) 6, unl o 9] := by
  have := lst_here h hx
  rw [ho, if_neg hz] at this
  exact this
set_option maxRecDepth 100000 in
set_option maxHeartbeats 2000000 in
theorem numbersErr_any (l0 l1 : Int) (A A2 : Option Addr) (n c n2 c2 : Nat) (B : Option Addr) (l : List Int) (cl : Nat) (w : World) (hn : n ≤ 1000) (hl : l.length ≤ 1000) (hat : At 1 Ic w B l) :
    Calls Tryz.prog 34 #[.agg #[.int .i64 l0, .int .i64 l1, .slice A n c, .slice A2 n2 c2], .slice B l.length cl] w fun e w' => e = .returned (.int .i64 (lstE n none l)) ∧ Below w.heap.size w w' := by
  obtain ⟨R, hR⟩ : ∃ R, lstE n none l = R := ⟨_, rfl⟩
  have hR' := Lib.hid hR
  rw [hR]
  clear hR
  have hat' := Lib.hid hat
  clear hat
  have hE := Lib.hid fun i W => readingErr_any l0 l1 A A2 n c n2 c2 i W (by omega)
  go_enter Tryz.func34, Tryz.ntmps34
  go_wp2
  go_loopw [10] (fun i wr => ∃ k : Nat, k ≤ l.length ∧ i = .int .i64 k ∧ Hid (LstAt n l k) ∧ Below w.heap.size w wr ∧ wr.heap[w.heap.size]? = some (.cells #[.int .i64 l0, .int .i64 l1, .slice A n c, .slice A2 n2 c2] 66 (0, 0))) (fun i _ => l.length - (intOf i).toNat)
  case atStart => exact ⟨0, Nat.zero_le _, rfl, rfl, by go_grown, bk_new _ _ rfl⟩
  case round =>
    obtain ⟨k, hk, rfl, hrl, hbw, D0⟩ := hrel
    have C0 := bk4 D0
    by_cases hlt : k < l.length
    · obtain ⟨x, hx⟩ : ∃ x, l[k]? = some x := ⟨_, List.getElem?_eq_getElem hlt⟩
      obtain ⟨b, o, rfl, hbl, hc⟩ := (hat'.out.below hbw) k x hx
      have c0 := hc 0 _ rfl
      simp only [Nat.add_zero, Nat.mul_one] at c0
      have hkI : (k : Int) < (l.length : Int) := by omega
      have hx' := Lib.hid hx
      clear hc hx
      obtain ⟨q1, hq1⟩ : ∃ q, within x 0 ((n : Int) - 1) = q := ⟨_, rfl⟩
      have hEx := Lib.hid fun W => hE.out x W
      rw [hq1] at hEx
      have hgo := Lib.hid fun (o : Bool) (ho : okUp (bfr l k) x = o) (hz : firstE [unl q1 6, unl o 9] = 0) => lst_go hrl.out hx'.out ho (by rw [hq1]; exact hz)
      have hst := Lib.hid fun (o : Bool) (ho : okUp (bfr l k) x = o) (hz : ¬ firstE [unl q1 6, unl o 9] = 0) => lst_stop hrl.out hx'.out ho (by rw [hq1]; exact hz)
      rw [hq1] at hst
      clear hq1
      by_cases hk0 : k = 0
      · have hkb : ((k : Int) == 0) = true := by simp [hk0]
        have hb0 : okUp (bfr l k) x = true := by rw [hk0]; rfl
        by_cases hz : firstE [unl q1 6, unl true 9] = 0
        · have hz2 : (firstE [unl q1 6, unl true 9] != 0) = false := by simp [hz]
          have hnx := hgo.out true hb0 hz
          have hnx' := Lib.hid hnx
          clear hz hnx hk0 hb0
          go_wp2_with (first | (go_at_call 59; refine (hEx.out _).mono ?_; rintro e w2 ⟨rfl, hb⟩; have hbw2 := via hbw hb; have D2 := bk_keep hb D0; have C2 := bk4 D2; replace c0 := cell_below0 c0 hb; replace hbl := Nat.lt_of_lt_of_le hbl hb.size; try replace c1 := cell_below0 c1 hb) | (go_at_call 36; refine (unless_any _ _ _).mono ?_; rintro e w' ⟨rfl, rfl⟩) | (go_at_call 33; refine (first2n _ _ _ (by rfl)).mono ?_; rintro e w' ⟨rfl, rfl⟩))
          go_roundw
          case rel => exact ⟨k + 1, by omega, by go_num, hnx'.out, via_alloc hbw2 _, bk_alloc D2 _⟩
          case measure => simp [intOf]; omega
        · have hz2 : (firstE [unl q1 6, unl true 9] != 0) = true := by simpa using hz
          have hv := Lib.hid (hR'.out.symm.trans (hst.out true hb0 hz))
          clear hz hk0 hb0
          go_wp2_with (first | (go_at_call 59; refine (hEx.out _).mono ?_; rintro e w2 ⟨rfl, hb⟩; have hbw2 := via hbw hb; have D2 := bk_keep hb D0; have C2 := bk4 D2; replace c0 := cell_below0 c0 hb; replace hbl := Nat.lt_of_lt_of_le hbl hb.size; try replace c1 := cell_below0 c1 hb) | (go_at_call 36; refine (unless_any _ _ _).mono ?_; rintro e w' ⟨rfl, rfl⟩) | (go_at_call 33; refine (first2n _ _ _ (by rfl)).mono ?_; rintro e w' ⟨rfl, rfl⟩))
          go_ret
          exact ⟨ret_int hv.out.symm, via_alloc hbw2 _⟩
      · have hkb : ((k : Int) == 0) = false := by simp [hk0]
        obtain ⟨q, hq⟩ : ∃ q, k = q + 1 := ⟨k - 1, by omega⟩
        have hkq : k - 1 = q := by omega
        have hql : q < l.length := by omega
        obtain ⟨y, hy⟩ : ∃ y, l[q]? = some y := ⟨_, List.getElem?_eq_getElem hql⟩
        obtain ⟨b', o', eA, -, hc'⟩ := (hat'.out.below hbw) q y hy
        simp only [Option.some.injEq, Addr.mk.injEq, and_true] at eA
        obtain ⟨rfl, rfl⟩ := eA
        have c1 := hc' 0 _ rfl
        simp only [Nat.add_zero, Nat.mul_one] at c1
        have hkJ : (q : Int) < (l.length : Int) := by omega
        have hmx : (if 1 < (k : Int) then (k : Int) - 1 else 0) = (q : Int) := by split <;> omega
        obtain ⟨q2, hq2⟩ : ∃ q, decide (y < x) = q := ⟨_, rfl⟩
        have hb0 : okUp (bfr l k) x = q2 := by
          unfold bfr
          rw [if_neg hk0, hkq, hy]
          exact hq2
        clear hc' hy hkq hq
        by_cases hz : firstE [unl q1 6, unl q2 9] = 0
        · have hz2 : (firstE [unl q1 6, unl q2 9] != 0) = false := by simp [hz]
          have hnx := hgo.out q2 hb0 hz
          have hnx' := Lib.hid hnx
          clear hz hnx hk0 hb0
          go_wp2_with (first | (go_at_call 59; refine (hEx.out _).mono ?_; rintro e w2 ⟨rfl, hb⟩; have hbw2 := via hbw hb; have D2 := bk_keep hb D0; have C2 := bk4 D2; replace c0 := cell_below0 c0 hb; replace hbl := Nat.lt_of_lt_of_le hbl hb.size; try replace c1 := cell_below0 c1 hb) | (go_at_call 36; refine (unless_any _ _ _).mono ?_; rintro e w' ⟨rfl, rfl⟩) | (go_at_call 33; refine (first2n _ _ _ (by rfl)).mono ?_; rintro e w' ⟨rfl, rfl⟩))
          go_roundw
          case rel => exact ⟨k + 1, by omega, by go_num, hnx'.out, via_alloc hbw2 _, bk_alloc D2 _⟩
          case measure => simp [intOf]; omega
        · have hz2 : (firstE [unl q1 6, unl q2 9] != 0) = true := by simpa using hz
          have hv := Lib.hid (hR'.out.symm.trans (hst.out q2 hb0 hz))
          clear hz hk0 hb0
          go_wp2_with (first | (go_at_call 59; refine (hEx.out _).mono ?_; rintro e w2 ⟨rfl, hb⟩; have hbw2 := via hbw hb; have D2 := bk_keep hb D0; have C2 := bk4 D2; replace c0 := cell_below0 c0 hb; replace hbl := Nat.lt_of_lt_of_le hbl hb.size; try replace c1 := cell_below0 c1 hb) | (go_at_call 36; refine (unless_any _ _ _).mono ?_; rintro e w' ⟨rfl, rfl⟩) | (go_at_call 33; refine (first2n _ _ _ (by rfl)).mono ?_; rintro e w' ⟨rfl, rfl⟩))
          go_ret
          exact ⟨ret_int hv.out.symm, via_alloc hbw2 _⟩
    · have hkk : k = l.length := by omega
      have hF : R = 0 := by
        rw [← hR'.out]
        have := hrl.out
        unfold LstAt at this
        rw [hkk, List.drop_length] at this
        exact this
      subst hF
      have hlI : ¬ (k : Int) < (l.length : Int) := by omega
      clear hkk
      go_wp2
      go_ret
      exact ⟨rfl, hbw⟩
end Go.Proofs

set_option linter.unusedSimpArgs false
set_option linter.unusedVariables false
namespace Go.Proofs
open Go.RowKit

/-! The plain law of the blamed gaugings. -/
theorem mem_pout {C : Nat → Nat → Bool} {n i : Nat} {p : Nat × Nat} : p ∈ pout C n i ↔ p.1 < i ∧ p.1 < p.2 ∧ p.2 < n ∧ C p.1 p.2 = true := by
  obtain ⟨a, b⟩ := p
  unfold pout pin
  simp only [List.mem_flatMap, List.mem_range, List.mem_map, List.mem_filter, Bool.and_eq_true, decide_eq_true_eq, Prod.mk.injEq]
  constructor
  · rintro ⟨c, h1, d, ⟨h2, h3, h4⟩, rfl, rfl⟩
    exact ⟨h1, h3, h2, h4⟩
  · rintro ⟨h1, h2, h3, h4⟩
    exact ⟨a, h1, b, ⟨h3, h2, h4⟩, rfl, rfl⟩
theorem contraAt_of {l0 l1 : Int} {rs : List Rd} {ms : List Mv} {i j : Nat} (hi : i < rs.length) (hj : j < rs.length) : contraAt l0 l1 rs ms i j = contra l0 l1 ms rs[i] rs[j] := by
  unfold contraAt
  rw [List.getElem?_eq_getElem hi, List.getElem?_eq_getElem hj]
theorem pairs_nil {l0 l1 : Int} {rs : List Rd} {ms : List Mv} : allPairs l0 l1 rs ms = [] ↔ rs.Pairwise (fun x y => contra l0 l1 ms x y = false) := by
  rw [List.eq_nil_iff_forall_not_mem, List.pairwise_iff_getElem]
  constructor
  · intro h i j hi hj hij
    have := h (i, j)
    unfold allPairs at this
    rw [mem_pout] at this
    cases hc : contra l0 l1 ms rs[i] rs[j] with
    | false => rfl
    | true => exact absurd ⟨by dsimp only; omega, hij, hj, by dsimp only; rw [contraAt_of hi hj, hc]⟩ this
  · intro h p hp
    unfold allPairs at hp
    rw [mem_pout] at hp
    obtain ⟨h1, h2, h3, h4⟩ := hp
    rw [contraAt_of h1 h3, h _ _ h1 h3 h2] at h4
    cases h4
/-- A list of numbers has one of each pair. -/
def cov (P : List (Nat × Nat)) (c : List Int) : Bool := P.all fun p => c.contains (p.1 : Int) || c.contains (p.2 : Int)
/-- The gaugings that a list of numbers leaves. -/
def woTo (rs : List Rd) (l : List Int) (k : Nat) : List Rd := ((rs.zipIdx.take k).filter fun q => !l.contains (q.2 : Int)).map (·.1)
def wo (rs : List Rd) (l : List Int) : List Rd := woTo rs l rs.length
theorem wo_eq (rs : List Rd) (l : List Int) : wo rs l = (rs.zipIdx.filter fun q => !l.contains (q.2 : Int)).map (·.1) := by
  unfold wo woTo
  rw [List.take_of_length_le (by simp)]
theorem wo_snoc {rs : List Rd} {l : List Int} {k : Nat} {x : Rd} (hx : rs[k]? = some x) : woTo rs l (k + 1) = woTo rs l k ++ (if l.contains (k : Int) then [] else [x]) := by
  unfold woTo
  rw [List.take_add_one]
  have e : rs.zipIdx[k]? = some (x, k) := by simp [hx]
  rw [e, List.filter_append, List.map_append]
  congr 1
  simp only [Option.toList_some, List.filter_cons, List.filter_nil]
  cases l.contains (k : Int) <;> rfl
theorem wo_len (rs : List Rd) (l : List Int) (k : Nat) : (woTo rs l k).length ≤ k := by
  unfold woTo
  rw [List.length_map]
  exact Nat.le_trans (List.length_filter_le _ _) (by simp; omega)
theorem wo_mem {rs : List Rd} {l : List Int} {x : Rd} (h : x ∈ wo rs l) : x ∈ rs := by
  rw [wo_eq] at h
  obtain ⟨q, hq, rfl⟩ := List.mem_map.1 h
  have := (List.mem_filter.1 hq).1
  exact List.fst_mem_of_mem_zipIdx this
theorem wo_len' (rs : List Rd) (l : List Int) : (wo rs l).length ≤ rs.length := wo_len rs l _
theorem wo_right {l0 l1 : Int} {rs : List Rd} {ms : List Mv} (h : Right l0 l1 rs ms) (l : List Int) : Right l0 l1 (wo rs l) ms :=
  ⟨h.l0, h.l1, Nat.le_trans (wo_len' rs l) h.rn, h.mn, fun x hx => h.rd x (wo_mem hx), h.mv⟩
theorem wo_pairs {l0 l1 : Int} {rs : List Rd} {ms : List Mv} {l : List Int} : allPairs l0 l1 (wo rs l) ms = [] ↔ cov (allPairs l0 l1 rs ms) l = true := by
  rw [pairs_nil, wo_eq, List.pairwise_map, List.pairwise_filter, List.pairwise_iff_getElem]
  unfold cov
  rw [List.all_eq_true]
  constructor
  · intro h p hp
    unfold allPairs at hp
    rw [mem_pout] at hp
    obtain ⟨h1, h2, h3, h4⟩ := hp
    have := h p.1 p.2 (by simpa using h1) (by simpa using h3) h2
    simp only [List.getElem_zipIdx, Nat.zero_add] at this
    rw [contraAt_of h1 h3] at h4
    cases q1 : l.contains (p.1 : Int) with
    | true => rfl
    | false =>
      cases q2 : l.contains (p.2 : Int) with
      | true => rfl
      | false =>
        rw [this (by rw [q1]; rfl) (by rw [q2]; rfl)] at h4
        cases h4
  · intro h i j hi hj hij q1 q2
    have hi' : i < rs.length := by simpa using hi
    have hj' : j < rs.length := by simpa using hj
    simp only [List.getElem_zipIdx, Nat.zero_add] at q1 q2 ⊢
    cases hc : contra l0 l1 ms rs[i] rs[j] with
    | false => rfl
    | true =>
      have := h (i, j) (by unfold allPairs; rw [mem_pout]; exact ⟨hi', hij, hj', by dsimp only; rw [contraAt_of hi' hj', hc]⟩)
      dsimp only at this
      rw [Bool.not_eq_true'] at q1 q2
      rw [q1, q2] at this
      cases this
/-- The gaugings that contradict any. -/
def touches (P : List (Nat × Nat)) (i : Nat) : Bool := P.any fun p => p.1 == i || p.2 == i
def inI (P : List (Nat × Nat)) (n : Nat) : List Int := ((List.range n).filter (touches P)).map fun (i : Nat) => (i : Int)
theorem inI_len (P : List (Nat × Nat)) (n : Nat) : (inI P n).length ≤ n := by
  unfold inI
  rw [List.length_map]
  exact Nat.le_trans (List.length_filter_le _ _) (by simp)
theorem mem_inI {P : List (Nat × Nat)} {n : Nat} {x : Int} : x ∈ inI P n ↔ ∃ i : Nat, x = i ∧ i < n ∧ touches P i = true := by
  unfold inI
  simp only [List.mem_map, List.mem_filter, List.mem_range]
  constructor
  · rintro ⟨i, ⟨h1, h2⟩, rfl⟩; exact ⟨i, rfl, h1, h2⟩
  · rintro ⟨i, rfl, h1, h2⟩; exact ⟨i, ⟨h1, h2⟩, rfl⟩
theorem inI_up (P : List (Nat × Nat)) (n : Nat) : (inI P n).Pairwise (· < ·) := by
  unfold inI
  rw [List.pairwise_map]
  refine List.Pairwise.filter _ ?_
  exact List.pairwise_lt_range.imp (fun h => by omega)
theorem inI_succ (P : List (Nat × Nat)) (n : Nat) : inI P (n + 1) = inI P n ++ (if touches P n then [(n : Int)] else []) := by
  unfold inI
  rw [List.range_succ, List.filter_append, List.map_append]
  congr 1
  cases h : touches P n <;> simp [h]
/-- Two lists that rise and have the same numbers are one. -/
theorem up_eq : ∀ {l m : List Int}, l.Pairwise (· < ·) → m.Pairwise (· < ·) → (∀ x, x ∈ l ↔ x ∈ m) → l = m
  | [], [], _, _, _ => rfl
  | [], b :: m, _, _, h => by have := (h b).2 (List.mem_cons_self ..); cases this
  | a :: l, [], _, _, h => by have := (h a).1 (List.mem_cons_self ..); cases this
  | a :: l, b :: m, hl, hm, h => by
    rw [List.pairwise_cons] at hl hm
    have hab : a = b := by
      have h1 := (h a).1 (List.mem_cons_self ..)
      have h2 := (h b).2 (List.mem_cons_self ..)
      rcases List.mem_cons.1 h1 with e | h1
      · exact e
      · rcases List.mem_cons.1 h2 with e | h2
        · exact e.symm
        · have := hm.1 a h1
          have := hl.1 b h2
          omega
    subst hab
    congr 1
    refine up_eq hl.2 hm.2 fun x => ⟨fun hx => ?_, fun hx => ?_⟩
    · rcases List.mem_cons.1 ((h x).1 (List.mem_cons_of_mem _ hx)) with e | h1
      · have := hl.1 x hx; omega
      · exact h1
    · rcases List.mem_cons.1 ((h x).2 (List.mem_cons_of_mem _ hx)) with e | h1
      · have := hm.1 x hx; omega
      · exact h1
/-- What slices.Compact leaves of a list that does not fall: it rises, and has the same numbers. -/
theorem compact_up (zs : List Int) (hz : ∀ i j, i ≤ j → j < zs.length → zs.toArray[i]! ≤ zs.toArray[j]!) : ∀ m, m ≤ zs.length →
    (Lib.compactUpTo zs.toArray m).Pairwise (· < ·) ∧ ∀ x, x ∈ Lib.compactUpTo zs.toArray m ↔ ∃ j, j < m ∧ zs.toArray[j]! = x
  | 0, _ => by simp [Lib.compactUpTo]
  | m + 1, hm => by
    obtain ⟨h1, h2⟩ := compact_up zs hz m (by omega)
    rw [Lib.compactUpTo_succ]
    cases hk : Lib.keeps zs.toArray m with
    | true =>
      simp only [if_true]
      refine ⟨?_, fun x => ?_⟩
      · rw [List.pairwise_append]
        refine ⟨h1, by simp, fun a ha b hb => ?_⟩
        simp only [List.mem_cons, List.not_mem_nil, or_false] at hb
        subst hb
        obtain ⟨j, hj, rfl⟩ := (h2 a).1 ha
        unfold Lib.keeps at hk
        rw [decide_eq_true_eq] at hk
        have hne : zs.toArray[m]! ≠ zs.toArray[m - 1]! := by
          rcases hk with h | h
          · omega
          · exact h
        have e1 := hz j (m - 1) (by omega) (by omega)
        have e2 := hz (m - 1) m (by omega) (by omega)
        omega
      · rw [List.mem_append, h2]
        simp only [List.mem_cons, List.not_mem_nil, or_false]
        constructor
        · rintro (⟨j, hj, rfl⟩ | rfl)
          · exact ⟨j, by omega, rfl⟩
          · exact ⟨m, by omega, rfl⟩
        · rintro ⟨j, hj, rfl⟩
          by_cases e : j = m
          · subst e; exact .inr rfl
          · exact .inl ⟨j, by omega, rfl⟩
    | false =>
      simp only [Bool.false_eq_true, if_false, List.append_nil]
      refine ⟨h1, fun x => ?_⟩
      rw [h2]
      unfold Lib.keeps at hk
      rw [decide_eq_false_iff_not, not_or, Decidable.not_not] at hk
      constructor
      · rintro ⟨j, hj, rfl⟩; exact ⟨j, by omega, rfl⟩
      · rintro ⟨j, hj, rfl⟩
        by_cases e : j = m
        · subst e; exact ⟨j - 1, by omega, hk.2.symm⟩
        · exact ⟨j, by omega, rfl⟩
def flatP (P : List (Nat × Nat)) : List Int := P.flatMap fun p => [(p.1 : Int), (p.2 : Int)]
def sortI (l : List Int) : List Int := l.mergeSort fun x y => decide (x ≤ y)
theorem sortI_perm (l : List Int) : (sortI l).Perm l := List.mergeSort_perm l _
theorem sortI_len (l : List Int) : (sortI l).length = l.length := (sortI_perm l).length_eq
theorem getBang {l : List Int} {j : Nat} (h : j < l.length) : l.toArray[j]! = l[j] := by simp [h]
theorem sortI_up (l : List Int) : ∀ i j, i ≤ j → j < (sortI l).length → (sortI l).toArray[i]! ≤ (sortI l).toArray[j]! := by
  intro i j hij hj
  have hp : (sortI l).Pairwise (fun a b => decide (a ≤ b) = true) := List.pairwise_mergeSort (le := fun x y => decide (x ≤ y)) (fun a b c h1 h2 => by simp at h1 h2 ⊢; omega) (fun a b => by simp; omega) l
  rw [getBang hj, getBang (by omega)]
  rcases Nat.lt_or_eq_of_le hij with h | h
  · have := List.pairwise_iff_getElem.1 hp i j (by omega) hj h
    simpa using this
  · subst h; exact Int.le_refl _
theorem compact_flat {P : List (Nat × Nat)} {n : Nat} (hP : ∀ p ∈ P, p.1 < n ∧ p.2 < n) : Lib.compact (sortI (flatP P)) = inI P n := by
  obtain ⟨h1, h2⟩ := compact_up (sortI (flatP P)) (sortI_up _) _ (Nat.le_refl _)
  refine up_eq h1 (inI_up P n) fun x => ?_
  have e : x ∈ Lib.compact (sortI (flatP P)) ↔ x ∈ flatP P := by
    unfold Lib.compact
    rw [h2, ← (sortI_perm (flatP P)).mem_iff]
    constructor
    · rintro ⟨j, hj, rfl⟩
      rw [getBang hj]
      exact List.getElem_mem hj
    · intro hx
      obtain ⟨j, hj, e⟩ := List.getElem_of_mem hx
      exact ⟨j, hj, by rw [getBang hj, e]⟩
  show x ∈ Lib.compact (sortI (flatP P)) ↔ _
  rw [e, mem_inI]
  unfold flatP touches
  simp only [List.mem_flatMap, List.mem_cons, List.not_mem_nil, or_false, List.any_eq_true, Bool.or_eq_true, beq_iff_eq]
  constructor
  · rintro ⟨p, hp, rfl | rfl⟩
    · exact ⟨p.1, rfl, (hP p hp).1, p, hp, .inl rfl⟩
    · exact ⟨p.2, rfl, (hP p hp).2, p, hp, .inr rfl⟩
  · rintro ⟨i, rfl, hi, p, hp, rfl | rfl⟩
    · exact ⟨p, hp, .inl rfl⟩
    · exact ⟨p, hp, .inr rfl⟩
/-! What a set takes of a list. -/
theorem sel_sub {α : Type} : ∀ (l : List α) (v : List Bool), (sel l v).Sublist l
  | [], v => by cases v <;> exact List.Sublist.refl _
  | x :: l, [] => List.nil_sublist _
  | x :: l, b :: v => by
    cases b
    · exact (sel_sub l v).cons x
    · exact (sel_sub l v).cons_cons x
theorem sel_all {α : Type} : ∀ (l : List α), sel l (List.replicate l.length true) = l
  | [] => rfl
  | x :: l => by simp [sel, List.replicate_succ, sel_all l]
theorem sel_has : ∀ {l : List Int} {v : List Bool} {j : Nat} {x : Int}, l.Pairwise (· < ·) → l[j]? = some x → (sel l v).contains x = v.getD j false
  | [], v, j, x, _, h => by simp at h
  | a :: l, [], j, x, _, _ => by simp [sel]
  | a :: l, b :: v, 0, x, hl, h => by
    rw [List.pairwise_cons] at hl
    simp only [List.getElem?_cons_zero, Option.some.injEq] at h
    subst h
    cases b
    · simp only [sel, Bool.false_eq_true, if_false, List.getD_cons_zero]
      rw [← Bool.not_eq_true, List.contains_iff_mem]
      intro hm
      have := hl.1 a ((sel_sub l v).subset hm)
      omega
    · simp [sel]
  | a :: l, b :: v, j + 1, x, hl, h => by
    rw [List.pairwise_cons] at hl
    simp only [List.getElem?_cons_succ] at h
    have ih := sel_has (v := v) hl.2 h
    have hx := hl.1 x (List.mem_of_getElem? h)
    rw [List.getD_cons_succ, ← ih]
    cases b
    · simp [sel]
    · have hne : (x == a) = false := by
        rw [beq_eq_false_iff_ne]
        omega
      simp only [sel, if_true, List.contains_cons, hne, Bool.false_or]
theorem sel_take {α : Type} : ∀ {l : List α} {v : List Bool} {j : Nat} {x : α}, l[j]? = some x → sel (l.take (j + 1)) v = sel (l.take j) v ++ (if v.getD j false then [x] else [])
  | [], v, j, x, h => by simp at h
  | a :: l, [], j, x, _ => by cases j <;> simp [sel]
  | a :: l, b :: v, 0, x, h => by
    simp only [List.getElem?_cons_zero, Option.some.injEq] at h
    subst h
    cases b <;> simp [sel]
  | a :: l, b :: v, j + 1, x, h => by
    simp only [List.getElem?_cons_succ] at h
    have ih := sel_take (v := v) h
    rw [List.take_succ_cons, List.take_succ_cons, List.getD_cons_succ]
    cases b
    · simp only [sel, Bool.false_eq_true, if_false]; exact ih
    · simp only [sel, if_true, ih, List.cons_append]
theorem sel_ones {α : Type} : ∀ (l : List α) (v : List Bool), v.length = l.length → (sel l v).length = ones v
  | [], [], _ => rfl
  | [], b :: v, h => by simp at h
  | x :: l, [], h => by simp at h
  | x :: l, b :: v, h => by
    have ih := sel_ones l v (by simpa using h)
    cases b <;> simp [sel, ones, ih]
    omega
theorem sel_map {l : List Int} (f : Int → Bool) : ∀ (l : List Int), sel l (l.map f) = l.filter f
  | [] => rfl
  | x :: l => by
    rw [List.map_cons, List.filter_cons]
    unfold sel
    rw [sel_map (l := l) f l]
theorem subs_mem : ∀ (v : List Bool), v ∈ subs v.length
  | [] => by simp [subs]
  | b :: v => by
    simp only [List.length_cons, subs, List.mem_append, List.mem_map]
    cases b
    · exact .inr ⟨v, subs_mem v, rfl⟩
    · exact .inl ⟨v, subs_mem v, rfl⟩
theorem len_of_sub : ∀ {a l : List Int}, a.Pairwise (· < ·) → (∀ x ∈ a, x ∈ l) → a.length ≤ l.length
  | [], l, _, _ => Nat.zero_le _
  | x :: a, l, h, hs => by
    rw [List.pairwise_cons] at h
    have hx := hs x (List.mem_cons_self ..)
    have := len_of_sub (a := a) (l := l.erase x) h.2 (fun y hy => by
      have hne : y ≠ x := by have := h.1 y hy; omega
      exact (List.mem_erase_of_ne hne).2 (hs y (List.mem_cons_of_mem _ hy)))
    rw [List.length_erase_of_mem hx] at this
    have hpos : 0 < l.length := List.length_pos_of_mem hx
    simp only [List.length_cons]
    omega
/-- The blamed gaugings. -/
def covV (P : List (Nat × Nat)) (n : Nat) (v : List Bool) : Bool := cov P (sel (inI P n) v)
def bestL (P : List (Nat × Nat)) (n : Nat) : List Bool := bestV (covV P n) (inI P n).length
def blamedL (P : List (Nat × Nat)) (n : Nat) : List Int := sel (inI P n) (bestL P n)
theorem covV_all {P : List (Nat × Nat)} {n : Nat} (hP : ∀ p ∈ P, p.1 < n ∧ p.2 < n) : covV P n (List.replicate (inI P n).length true) = true := by
  unfold covV cov
  rw [sel_all, List.all_eq_true]
  intro p hp
  rw [Bool.or_eq_true, List.contains_iff_mem]
  exact .inl (mem_inI.2 ⟨p.1, rfl, (hP p hp).1, by unfold touches; rw [List.any_eq_true]; exact ⟨p, hp, by simp⟩⟩)
theorem blamed_cov {P : List (Nat × Nat)} {n : Nat} (hP : ∀ p ∈ P, p.1 < n ∧ p.2 < n) : cov P (blamedL P n) = true := (bestV_said _ _ (covV_all hP)).1
theorem blamed_least {P : List (Nat × Nat)} {n : Nat} (hP : ∀ p ∈ P, p.1 < n ∧ p.2 < n) {l : List Int} (h : cov P l = true) : (blamedL P n).length ≤ l.length := by
  obtain ⟨-, h2, h3⟩ := bestV_said _ _ (covV_all hP)
  have hb : (bestL P n).length = (inI P n).length := subs_len _ _ (List.mem_filter.1 (List.mem_of_find?_eq_some h3)).1
  unfold blamedL
  rw [sel_ones _ _ hb]
  have hv := h2 ((inI P n).map fun x => l.contains x) (by have := subs_mem ((inI P n).map fun x => l.contains x); rwa [List.length_map] at this) (by
    unfold covV
    rw [sel_map (l := []) (fun x => l.contains x) (inI P n)]
    unfold cov at h ⊢
    rw [List.all_eq_true] at h ⊢
    intro p hp
    have := h p hp
    have t : touches P p.1 = true ∧ touches P p.2 = true := by
      unfold touches
      rw [List.any_eq_true, List.any_eq_true]
      exact ⟨⟨p, hp, by simp⟩, ⟨p, hp, by simp⟩⟩
    have m1 := mem_inI.2 ⟨p.1, rfl, (hP p hp).1, t.1⟩
    have m2 := mem_inI.2 ⟨p.2, rfl, (hP p hp).2, t.2⟩
    rw [Bool.or_eq_true] at this ⊢
    simp only [List.contains_iff_mem, List.mem_filter] at this ⊢
    rcases this with h | h
    · exact .inl ⟨m1, h⟩
    · exact .inr ⟨m2, h⟩)
  refine Nat.le_trans hv ?_
  rw [← sel_ones (inI P n) _ (by simp), sel_map (l := []) (fun x => l.contains x) (inI P n)]
  exact len_of_sub ((inI_up P n).filter _) (fun x hx => by simpa using (List.mem_filter.1 hx).2)
theorem blamed_up (P : List (Nat × Nat)) (n : Nat) : (blamedL P n).Pairwise (· < ·) := List.Pairwise.sublist (sel_sub _ _) (inI_up P n)
theorem blamed_in {P : List (Nat × Nat)} {n : Nat} {x : Int} (h : x ∈ blamedL P n) : 0 ≤ x ∧ x ≤ (n : Int) - 1 := by
  obtain ⟨i, rfl, h1, -⟩ := mem_inI.1 ((sel_sub _ _).subset h)
  omega
theorem blamed_len (P : List (Nat × Nat)) (n : Nat) : (blamedL P n).length ≤ n := Nat.le_trans (sel_sub _ _).length_le (inI_len P n)
theorem lstE_zero (n : Nat) : ∀ (l : List Int) (b : Option Int), l.Pairwise (· < ·) → (∀ x ∈ l, okUp b x = true) → (∀ x ∈ l, 0 ≤ x ∧ x ≤ (n : Int) - 1) → lstE n b l = 0
  | [], _, _, _, _ => rfl
  | x :: l, b, h, hb, hr => by
    rw [List.pairwise_cons] at h
    have h1 := hr x (List.mem_cons_self ..)
    have e : firstE [unl (within x 0 ((n : Int) - 1)) 6, unl (okUp b x) 9] = 0 := by
      rw [hb x (List.mem_cons_self ..)]
      have : within x 0 ((n : Int) - 1) = true := by unfold within; simp [h1]
      rw [this]
      rfl
    unfold lstE
    rw [if_pos e]
    exact lstE_zero n l (some x) h.2 (fun y hy => by unfold okUp; simpa using h.1 y hy) (fun y hy => hr y (List.mem_cons_of_mem _ hy))
theorem blamed_lst (P : List (Nat × Nat)) (n : Nat) : lstE n none (blamedL P n) = 0 := lstE_zero n _ none (blamed_up P n) (fun x _ => rfl) (fun x hx => blamed_in hx)
theorem blamed_find {P : List (Nat × Nat)} {n : Nat} (hP : ∀ p ∈ P, p.1 < n ∧ p.2 < n) : firstSize (fun s => (combos (inI P n) s).find? (cov P)) ((inI P n).length + 1) 0 = some (blamedL P n) :=
  blame_law (inI P n) (covV P n) (cov P) (fun v _ => rfl) (covV_all hP)
theorem pairs_in {l0 l1 : Int} {rs : List Rd} {ms : List Mv} : ∀ p ∈ allPairs l0 l1 rs ms, p.1 < rs.length ∧ p.2 < rs.length := by
  intro p hp
  unfold allPairs at hp
  rw [mem_pout] at hp
  exact ⟨hp.1, hp.2.2.1⟩
end Go.Proofs
