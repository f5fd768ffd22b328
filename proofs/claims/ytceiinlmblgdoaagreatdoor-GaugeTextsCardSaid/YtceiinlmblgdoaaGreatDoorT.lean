import Derived.Test.YtceiinlmblgdoaaGreatDoorR
set_option linter.unusedSimpArgs false
set_option linter.unusedVariables false
namespace Go.Proofs
open Go.RowKit

/-- The gaugings of a cask allow on a day: the greatest least end, the least greatest end; none: there is none. -/
def meet (l0 l1 : Int) (ms : List Mv) (cask : ByteArray) (day : Int) (o : Option (Int × Int)) (x : Rd) : Option (Int × Int) :=
  if eqS x.c cask then
    match o with
    | none => some (allowsLo l0 l1 ms x day, allowsHi l0 l1 ms x day)
    | some (a, b) => some (max (allowsLo l0 l1 ms x day) a, min (allowsHi l0 l1 ms x day) b)
  else o
def clashed (rs : List Rd) (cask : ByteArray) (ps : List (Nat × Nat)) : Bool :=
  ps.any fun p => match rs[p.1]? with
    | some x => eqS x.c cask
    | none => false
def atV (l0 l1 : Int) (rs : List Rd) (ms : List Mv) (cask : ByteArray) (day : Int) : (Int × Int) × Int :=
  if clashed rs cask (allPairs l0 l1 rs ms) then ((0, 0), 13)
  else match rs.foldl (meet l0 l1 ms cask day) none with
    | none => ((0, 0), 12)
    | some (a, b) => ((a / 1000, -(-b / 1000)), 0)

theorem allPairs_fst (l0 l1 : Int) (rs : List Rd) (ms : List Mv) : ∀ p ∈ allPairs l0 l1 rs ms, p.1 < rs.length ∧ p.2 < rs.length := by
  intro p hp
  unfold allPairs pout pin at hp
  simp only [List.mem_flatMap, List.mem_map, List.mem_filter, List.mem_range] at hp
  obtain ⟨a, ha, b, ⟨hb, _⟩, rfl⟩ := hp
  exact ⟨ha, hb⟩
theorem allPairs_len (l0 l1 : Int) (rs : List Rd) (ms : List Mv) (h : rs.length ≤ 40) : (allPairs l0 l1 rs ms).length ≤ 1600 := by
  have := pout_len (contraAt l0 l1 rs ms) rs.length rs.length
  have := Nat.mul_le_mul h h
  unfold allPairs
  omega

def CAtT (rs : List Rd) (cask : ByteArray) (ps : List (Nat × Nat)) (k : Nat) : Prop := clashed rs cask ps = clashed rs cask (ps.drop k)
theorem cAtT_step (rs : List Rd) (cask : ByteArray) (ps : List (Nat × Nat)) (k : Nat) (p : Nat × Nat) (h : ps[k]? = some p) :
    clashed rs cask (ps.drop k) = ((match rs[p.1]? with | some x => eqS x.c cask | none => false) || clashed rs cask (ps.drop (k + 1))) := by
  obtain ⟨hi, hx'⟩ := List.getElem?_eq_some_iff.1 h
  rw [List.drop_eq_getElem_cons hi, hx']
  rfl

set_option maxRecDepth 100000 in
set_option maxHeartbeats 2000000 in
theorem at_clash (l0 l1 : Int) (A A2 : Option Addr) (rs : List Rd) (ms : List Mv) (c c2 : Nat) (cask : ByteArray) (day : Int) (w : World) (hok : Right l0 l1 rs ms) (hat : At 4 Rd.cs w A rs) (hat2 : At 4 Mv.cs w A2 ms)
    (hcl : clashed rs cask (allPairs l0 l1 rs ms) = true) :
    Calls Tryz.prog 35 #[.agg #[.int .i64 l0, .int .i64 l1, .slice A rs.length c, .slice A2 ms.length c2], .string cask, .int .i64 day] w fun e w' =>
      e = .returned (.tuple #[.agg #[.int .i64 0, .int .i64 0], .int .i64 13]) ∧ Below w.heap.size w w' := by
  have hP := Lib.hid fun W hW => pairs_any l0 l1 A A2 rs ms c c2 W hok (At.below hat hW) (At.below hat2 hW)
  have hf := Lib.hid (allPairs_fst l0 l1 rs ms)
  have hpl := allPairs_len l0 l1 rs ms hok.rn
  have hrn := hok.rn
  generalize allPairs l0 l1 rs ms = ps at *
  obtain ⟨np, hnp⟩ : ∃ np, ps.length = np := ⟨_, rfl⟩
  have hnp' := Lib.hid hnp
  rw [hnp] at hP hpl
  clear hnp
  have hat' := Lib.hid hat
  obtain ⟨n, hn⟩ : ∃ n, rs.length = n := ⟨_, rfl⟩
  have hn' := Lib.hid hn
  have hcl' := Lib.hid hcl
  rw [hn] at hP hrn ⊢
  clear hn hat hat2 hok hcl
  go_enter Tryz.func35, Tryz.ntmps35
  go_wp2_with (go_at_call 57; refine (hP.out _ ?_).mono ?_; (· go_grown); rintro e w1 ⟨⟨A3, cap3, rfl, hat3⟩, hb⟩; have hat3' := Lib.hid hat3; clear hat3; have hcc := gcell hb; have hff := gfrozen hb; have hbw := via (by go_grown : Below w.heap.size w _) hb; have hz0 : w.heap.size < w1.heap.size := (by have := hb.size; simp at this; omega); have hz1 : w.heap.size + 1 < w1.heap.size := (by have := hb.size; simp at this; omega))
  have hcl2 : ∀ k, Hid (CAtT rs cask ps k) → ps.length ≤ k → False := fun k h hk => by
    have := h.out
    unfold CAtT at this
    rw [List.drop_of_length_le hk] at this
    rw [hcl'.out] at this
    cases this
  have hcl3 := Lib.hid hcl2
  clear hcl2
  go_loopw [18] (fun i wr => ∃ k : Nat, k ≤ np ∧ i = .int .i64 k ∧ Hid (CAtT rs cask ps k) ∧ Below w.heap.size w wr ∧ Below w1.heap.size w1 wr) (fun i _ => np - (intOf i).toNat)
  case atStart => exact ⟨0, Nat.zero_le _, rfl, by unfold Hid CAtT; rw [List.drop_zero], hbw, Below.refl _ _⟩
  case round =>
    obtain ⟨k, hk, rfl, hct, hb1, hb2⟩ := hrel
    have hc1 := gcell hb2
    have hf1 := gfrozen hb2
    have hs1 := hb2.size
    have hz2 : w.heap.size < wr.heap.size := by omega
    have hz3 : w.heap.size + 1 < wr.heap.size := by omega
    by_cases hlt : k < np
    · have hkl : k < ps.length := by rw [hnp'.out]; exact hlt
      have hx : ps[k]? = some ps[k] := List.getElem?_eq_getElem hkl
      obtain ⟨m, hme⟩ : ∃ m, ps[k] = m := ⟨_, rfl⟩
      rw [hme] at hx
      obtain ⟨b, o, hA, hbl, hc⟩ := (hat3'.out.below hb2) k m hx
      subst hA
      have hmf := hf.out m (List.mem_of_getElem? hx)
      have hcs := Lib.hid (cAtT_step rs cask ps k m hx)
      obtain ⟨p1, p2⟩ := m
      have c0 := hc 0 _ rfl
      have c1 := hc 1 _ rfl
      dsimp only at c0 c1 hmf
      simp only [Nat.add_zero] at c0
      have hp1 : p1 < n := by rw [← hn'.out]; exact hmf.1
      have hxx : rs[p1]? = some rs[p1] := List.getElem?_eq_getElem hmf.1
      obtain ⟨x, hxe⟩ : ∃ x, rs[p1] = x := ⟨_, rfl⟩
      rw [hxe] at hxx
      obtain ⟨b2, o2, hA2, hbl2, hcx⟩ := (hat'.out.below hb1) p1 x hxx
      subst hA2
      have d0 := hcx 0 _ rfl
      simp only [Nat.add_zero] at d0
      have hxx' := Lib.hid hxx
      have hp1i : (p1 : Int) < (n : Int) := by omega
      clear hx hme hc hmf hxe hcx hxx
      cases hq : eqS x.c cask
      · have hq2 : (x.c.toList == cask.toList) = false := hq
        have hq' := Lib.hid hq
        clear hq
        go_wp2
        go_roundw
        case rel => exact ⟨k + 1, by omega, by go_num, by
          have e := hcs.out
          rw [hxx'.out] at e
          dsimp only at e
          rw [hq'.out, Bool.false_or] at e
          unfold Hid CAtT; rw [hct.out, e], via_alloc hb1 _, hb2.alloc hb2.size _⟩
        case measure => simp [intOf]; omega
      · have hq2 : (x.c.toList == cask.toList) = true := hq
        have hq' := Lib.hid hq
        clear hq
        go_wp2
        refine bodyPost_ret (v := .tuple #[.agg #[.int .i64 0, .int .i64 0], .int .i64 13]) ?_ rfl ⟨rfl, ?_⟩
        · simp [results, Tryz.results35, go_sem, hz3, hc1, hf1, hcc, hff, hz0, hz1]
        · go_grown
    · exact (hcl3.out k hct (by rw [hnp'.out]; omega)).elim
end Go.Proofs
