import Derived.Test.YtmnjoamkaapjcaaGreatMg12
set_option linter.unusedSimpArgs false
set_option linter.unusedVariables false
namespace Go.Proofs
open Go.RowKit

theorem clash_false (rs : List Rd) (cask : ByteArray) (ps : List (Nat × Nat)) (h : clashed rs cask ps = false) (k : Nat) (p : Nat × Nat) (x : Rd) (hp : ps[k]? = some p) (hx : rs[p.1]? = some x) : eqS x.c cask = false := by
  unfold clashed at h
  rw [List.any_eq_false] at h
  have := h p (List.mem_of_getElem? hp)
  rw [hx] at this
  simpa using this
theorem allows_bd (l0 l1 : Int) (rs : List Rd) (ms : List Mv) (x : Rd) (day : Int) (hok : Right l0 l1 rs ms) (hx : x ∈ rs) (h0 : 0 ≤ day) (h1 : day ≤ 100000) :
    -20000000000 ≤ allowsLo l0 l1 ms x day ∧ allowsLo l0 l1 ms x day ≤ 20000000000 ∧ -20000000000 ≤ allowsHi l0 l1 ms x day ∧ allowsHi l0 l1 ms x day ≤ 20000000000 := by
  obtain ⟨⟨a1, a2⟩, ⟨b1, b2⟩, _, hmn, hrd, hmv⟩ := hok
  obtain ⟨d1, d2, e1, e2, f1, f2⟩ := hrd x hx
  unfold allowsLo allowsHi
  have n1 := netL_bd x.c x.d day ms hmv hmn
  have n2 := netL_bd x.c day x.d ms hmv hmn
  split
  · have m1 := mul_bd l1 (day - x.d) b1 b2 (by omega) (by omega)
    have m0 := mul_bd l0 (day - x.d) a1 a2 (by omega) (by omega)
    omega
  · have m1 := mul_bd l1 (x.d - day) b1 b2 (by omega) (by omega)
    have m0 := mul_bd l0 (x.d - day) a1 a2 (by omega) (by omega)
    omega
def bdO (o : Option (Int × Int)) : Prop := ∀ a b, o = some (a, b) → -20000000000 ≤ a ∧ a ≤ 20000000000 ∧ -20000000000 ≤ b ∧ b ≤ 20000000000
theorem meet_bd (l0 l1 : Int) (rs : List Rd) (ms : List Mv) (cask : ByteArray) (day : Int) (hok : Right l0 l1 rs ms) (h0 : 0 ≤ day) (h1 : day ≤ 100000) (o : Option (Int × Int)) (ho : bdO o) (x : Rd) (hx : x ∈ rs) :
    bdO (meet l0 l1 ms cask day o x) := by
  have hb := allows_bd l0 l1 rs ms x day hok hx h0 h1
  unfold meet
  split
  · cases o with
    | none => intro a b hab; simp only [Option.some.injEq, Prod.mk.injEq] at hab; omega
    | some q =>
      obtain ⟨c, d⟩ := q
      have := ho c d rfl
      intro a b hab
      simp only [Option.some.injEq, Prod.mk.injEq] at hab
      omega
  · exact ho
theorem meet_bd_take (l0 l1 : Int) (rs : List Rd) (ms : List Mv) (cask : ByteArray) (day : Int) (hok : Right l0 l1 rs ms) (h0 : 0 ≤ day) (h1 : day ≤ 100000) :
    ∀ (l : List Rd) (o : Option (Int × Int)), (∀ x ∈ l, x ∈ rs) → bdO o → bdO (l.foldl (meet l0 l1 ms cask day) o)
  | [], _, _, ho => ho
  | x :: l, o, hl, ho => meet_bd_take l0 l1 rs ms cask day hok h0 h1 l _ (fun y hy => hl y (by simp [hy])) (meet_bd l0 l1 rs ms cask day hok h0 h1 o ho x (hl x (by simp)))

/-- The local struct holds what has been met so far. -/
def OutI (B : Nat) (wr : World) (o : Option (Int × Int)) : Prop :=
  (∃ a b : Int, wr.cell? ⟨B, 0, none⟩ = some (.int .i64 a) ∧ wr.cell? ⟨B, 1, none⟩ = some (.int .i64 b) ∧ (∀ p, o = some p → a = p.1 ∧ b = p.2)) ∧ wr.frozen? ⟨B, 0, none⟩ = false ∧ wr.frozen? ⟨B, 1, none⟩ = false
end Go.Proofs

set_option linter.unusedSimpArgs false
set_option linter.unusedVariables false
namespace Go.Proofs
open Go.RowKit

theorem foldl_take {α β : Type} (f : β → α → β) (b : β) (l : List α) (k : Nat) (x : α) (h : l[k]? = some x) : (l.take (k + 1)).foldl f b = f ((l.take k).foldl f b) x := by
  rw [List.take_add_one, h, Option.toList_some, List.foldl_append]; rfl

set_option maxRecDepth 100000 in
set_option maxHeartbeats 2000000 in
theorem at_good (l0 l1 : Int) (A A2 : Option Addr) (rs : List Rd) (ms : List Mv) (c c2 : Nat) (cask : ByteArray) (day : Int) (w : World) (hok : Right l0 l1 rs ms) (hat : At 4 Rd.cs w A rs) (hat2 : At 4 Mv.cs w A2 ms)
    (hcl : clashed rs cask (allPairs l0 l1 rs ms) = false) (hd0 : 0 ≤ day) (hd1 : day ≤ 100000) :
    Calls Tryz.prog 47 #[.agg #[.int .i64 l0, .int .i64 l1, .slice A rs.length c, .slice A2 ms.length c2], .string cask, .int .i64 day] w fun e w' =>
      e = .returned (.tuple #[.agg #[.int .i64 (atV l0 l1 rs ms cask day).1.1, .int .i64 (atV l0 l1 rs ms cask day).1.2], .int .i64 (atV l0 l1 rs ms cask day).2]) ∧ Below w.heap.size w w' := by
  have hP := Lib.hid fun W hW => pairs_any l0 l1 A A2 rs ms c c2 W hok (At.below hat hW) (At.below hat2 hW)
  have hAl := Lib.hid fun W hW (x : Rd) (hx : x ∈ rs) => allows_any l0 l1 (.slice A rs.length c) A2 ms c2 x day W hok.mn hok.mv (At.below hat2 hW) hok.l0.1 hok.l0.2 hok.l1.1 hok.l1.2 hd0 hd1 ⟨(hok.rd x hx).1, (hok.rd x hx).2.1⟩ ⟨(hok.rd x hx).2.2.1, (hok.rd x hx).2.2.2.1⟩ ⟨(hok.rd x hx).2.2.2.2.1, (hok.rd x hx).2.2.2.2.2⟩
  have hf := Lib.hid (allPairs_fst l0 l1 rs ms)
  have hpl := allPairs_len l0 l1 rs ms hok.rn
  have hrn := hok.rn
  obtain ⟨V, hV⟩ : ∃ V, atV l0 l1 rs ms cask day = V := ⟨_, rfl⟩
  rw [hV]
  have hV' : Hid ((match rs.foldl (meet l0 l1 ms cask day) none with
    | none => ((0, 0), 12)
    | some (a, b) => ((a / 1000, -(-b / 1000)), 0)) = V) := by
    unfold Hid
    rw [← hV]; unfold atV; rw [hcl]; rfl
  clear hV
  obtain ⟨⟨V1, V2⟩, V3⟩ := V
  dsimp only
  have hbd := Lib.hid fun k => meet_bd_take l0 l1 rs ms cask day hok hd0 hd1 (rs.take k) none (fun x hx => List.mem_of_mem_take hx) (fun a b h => by cases h)
  generalize allPairs l0 l1 rs ms = ps at *
  obtain ⟨np, hnp⟩ : ∃ np, ps.length = np := ⟨_, rfl⟩
  have hnp' := Lib.hid hnp
  rw [hnp] at hP hpl
  clear hnp
  have hat' := Lib.hid hat
  obtain ⟨n, hn⟩ : ∃ n, rs.length = n := ⟨_, rfl⟩
  have hn' := Lib.hid hn
  have hcl' := Lib.hid hcl
  rw [hn] at hP hrn hAl ⊢
  clear hn hat hat2 hok hcl
  go_enter Tryz.func47, Tryz.ntmps47
  go_wp2_with (go_at_call 25; refine (hP.out _ ?_).mono ?_; (· go_grown); rintro e w1 ⟨⟨A3, cap3, rfl, hat3⟩, hb⟩; have hat3' := Lib.hid hat3; clear hat3; have hcc := gcell hb; have hff := gfrozen hb; have hbw := via (by go_grown : Below w.heap.size w _) hb; have hz0 : w.heap.size < w1.heap.size := (by have := hb.size; simp at this; omega); have hz1 : w.heap.size + 1 < w1.heap.size := (by have := hb.size; simp at this; omega))
  have q0 : w1.cell? ⟨w.heap.size, 0, none⟩ = some (.int .i64 l0) := by rw [hcc _ _ (by simp; omega)]; simp [go_sem]
  have q1 : w1.cell? ⟨w.heap.size, 1, none⟩ = some (.int .i64 l1) := by rw [hcc _ _ (by simp; omega)]; simp [go_sem]
  have q2 : w1.cell? ⟨w.heap.size, 2, none⟩ = some (.slice A n c) := by rw [hcc _ _ (by simp; omega)]; simp [go_sem]
  have q3 : w1.cell? ⟨w.heap.size, 3, none⟩ = some (.slice A2 ms.length c2) := by rw [hcc _ _ (by simp; omega)]; simp [go_sem]
  have p0 : w1.cell? ⟨w.heap.size + 1, 0, none⟩ = some (.int .i64 0) := by rw [hcc _ _ (by simp)]; simp [go_sem]
  have p1 : w1.cell? ⟨w.heap.size + 1, 1, none⟩ = some (.int .i64 0) := by rw [hcc _ _ (by simp)]; simp [go_sem]
  have p2 : w1.frozen? ⟨w.heap.size + 1, 0, none⟩ = false := by rw [hff _ _ (by simp)]; simp [go_sem]
  have p3 : w1.frozen? ⟨w.heap.size + 1, 1, none⟩ = false := by rw [hff _ _ (by simp)]; simp [go_sem]
  clear hcc hff hb hP
  go_loopw [18] (fun i wr => ∃ k : Nat, k ≤ np ∧ i = .int .i64 k ∧ Below w.heap.size w wr ∧ Below w1.heap.size w1 wr) (fun i _ => np - (intOf i).toNat)
  case atStart => exact ⟨0, Nat.zero_le _, rfl, hbw, Below.refl _ _⟩
  case round =>
    obtain ⟨k, hk, rfl, hb1, hb2⟩ := hrel
    have hs1 := hb2.size
    by_cases hlt : k < np
    · have hkl : k < ps.length := by rw [hnp'.out]; exact hlt
      have hx : ps[k]? = some ps[k] := List.getElem?_eq_getElem hkl
      obtain ⟨m, hme⟩ : ∃ m, ps[k] = m := ⟨_, rfl⟩
      rw [hme] at hx
      obtain ⟨b, o, hA, hbl, hc⟩ := (hat3'.out.below hb2) k m hx
      subst hA
      have hmf := hf.out m (List.mem_of_getElem? hx)
      obtain ⟨x, hxe⟩ : ∃ x, rs[m.1] = x := ⟨_, rfl⟩
      have hxx : rs[m.1]? = some rs[m.1] := List.getElem?_eq_getElem hmf.1
      rw [hxe] at hxx
      have hcs := clash_false rs cask ps hcl'.out k m x hx hxx
      obtain ⟨p1', p2'⟩ := m
      have c0 := hc 0 _ rfl
      have c1 := hc 1 _ rfl
      dsimp only at c0 c1 hmf hxx
      simp only [Nat.add_zero] at c0
      have hp1 : p1' < n := by rw [← hn'.out]; exact hmf.1
      obtain ⟨b2, o2, hA2, hbl2, hcx⟩ := (hat'.out.below hb1) p1' x hxx
      subst hA2
      have d0 := hcx 0 _ rfl
      simp only [Nat.add_zero] at d0
      have hp1i : (p1' : Int) < (n : Int) := by omega
      have f0 := (gcell hb2 _ 0 hz0).trans q0
      have f1 := (gcell hb2 _ 1 hz0).trans q1
      have f2 := (gcell hb2 _ 2 hz0).trans q2
      have f3 := (gcell hb2 _ 3 hz0).trans q3
      have hz2 : w.heap.size < wr.heap.size := by omega
      have hz3 : w.heap.size + 1 < wr.heap.size := by omega
      have hq2 : (x.c.toList == cask.toList) = false := hcs
      clear hx hme hc hmf hxe hcx hxx hcs q0 q1 q2 q3 p0 p1 p2 p3
      go_wp2
      go_roundw
      case rel => exact ⟨k + 1, by omega, by go_num, via_alloc hb1 _, hb2.alloc hb2.size _⟩
      case measure => simp [intOf]; omega
    · have f0 := (gcell hb2 _ 0 hz0).trans q0
      have f1 := (gcell hb2 _ 1 hz0).trans q1
      have f2 := (gcell hb2 _ 2 hz0).trans q2
      have f3 := (gcell hb2 _ 3 hz0).trans q3
      have hz2 : w.heap.size < wr.heap.size := by omega
      have hz3 : w.heap.size + 1 < wr.heap.size := by omega
      have g0 := (gcell hb2 _ 0 hz1).trans p0
      have g1 := (gcell hb2 _ 1 hz1).trans p1
      have g2 := (gfrozen hb2 _ 0 hz1).trans p2
      have g3 := (gfrozen hb2 _ 1 hz1).trans p3
      clear q0 q1 q2 q3 p0 p1 p2 p3 hcl' hf hat3' hpl hnp'
      obtain ⟨B, hB⟩ : ∃ B, wr.heap.size = B := ⟨_, rfl⟩
      have hB0 : w.heap.size < B := by omega
      have hB1 : w.heap.size + 1 < B := by omega
      go_wp2_with fail
      go_loopw [11, 38] (fun kn i wv => ∃ k : Nat, k ≤ n ∧ i = .int .i64 k ∧ ∃ o, Hid ((rs.take k).foldl (meet l0 l1 ms cask day) none = o) ∧ kn = .bool o.isSome ∧ Below w.heap.size w wv ∧ B < wv.heap.size ∧
        wv.cell? ⟨w.heap.size, 0, none⟩ = some (.int .i64 l0) ∧ wv.cell? ⟨w.heap.size, 1, none⟩ = some (.int .i64 l1) ∧ wv.cell? ⟨w.heap.size, 2, none⟩ = some (.slice A n c) ∧ wv.cell? ⟨w.heap.size, 3, none⟩ = some (.slice A2 ms.length c2) ∧
        wv.cell? ⟨w.heap.size + 1, 0, none⟩ = some (.int .i64 0) ∧ wv.cell? ⟨w.heap.size + 1, 1, none⟩ = some (.int .i64 0) ∧ wv.frozen? ⟨w.heap.size + 1, 0, none⟩ = false ∧ wv.frozen? ⟨w.heap.size + 1, 1, none⟩ = false ∧ OutI B wv o) (fun _ i _ => n - (intOf i).toNat)
      case atStart =>
        refine ⟨0, Nat.zero_le _, rfl, none, rfl, rfl, by go_grown, by simp [hB], ?_⟩
        rw [← hB]
        have hO : OutI wr.heap.size (wr.alloc (.cells #[.int .i64 0, .int .i64 0] 23)) none := by
          refine ⟨⟨0, 0, by simp [go_sem], by simp [go_sem], fun p hp => by cases hp⟩, by simp [go_sem], by simp [go_sem]⟩
        simp [go_sem, hz2, hz3, f0, f1, f2, f3, g0, g1, g2, g3, hO]
      case round =>
        clear f0 f1 f2 f3 g0 g1 g2 g3
        obtain ⟨k, hk, rfl, o, ho, rfl, hb, hsz, f0, f1, f2, f3, g0, g1, g2, g3, ⟨a, b, e1, e2, e3⟩, e4, e5⟩ := hrel
        have hy0 : w.heap.size < wr.heap.size := by omega
        have hy1 : w.heap.size + 1 < wr.heap.size := by omega
        by_cases hlt : k < n
        · have hkl : k < rs.length := by rw [hn'.out]; omega
          obtain ⟨x, hxe⟩ : ∃ x, rs[k] = x := ⟨_, rfl⟩
          have hx : rs[k]? = some x := by rw [← hxe]; exact List.getElem?_eq_getElem hkl
          have hxm := List.mem_of_getElem? hx
          obtain ⟨b1, o1, hA, hbl, hc⟩ := hat'.out.below hb k x hx
          subst hA
          have hAx := Lib.hid fun W hW => hAl.out W hW x hxm
          have hst : Hid ((rs.take (k + 1)).foldl (meet l0 l1 ms cask day) none = meet l0 l1 ms cask day o x) := by
            unfold Hid
            rw [foldl_take _ _ _ _ _ hx, ho.out]
          obtain ⟨M, hM⟩ : ∃ M, meet l0 l1 ms cask day o x = M := ⟨_, rfl⟩
          rw [hM] at hst
          unfold meet at hM
          generalize allowsLo l0 l1 ms x day = L1 at *
          generalize allowsHi l0 l1 ms x day = L2 at *
          obtain ⟨xc, xd, xlo, xhi⟩ := x
          have d0 := hc 0 _ rfl
          have d1 := hc 1 _ rfl
          have d2 := hc 2 _ rfl
          have d3 := hc 3 _ rfl
          dsimp only at *
          simp only [Nat.add_zero] at d0
          clear hxe hx hxm hc hkl
          cases hq : eqS xc cask
          · have hq2 : (xc.toList == cask.toList) = false := hq
            rw [hq, if_neg (by simp)] at hM
            subst hM
            clear hq
            go_wp2_with fail
            go_roundw
            case rel =>
              refine ⟨k + 1, by omega, by go_num, o, hst, rfl, by go_grown, by simp; omega, ?_⟩
              unfold OutI
              refine ⟨?_, ?_, ?_, ?_, ?_, ?_, ?_, ?_, ⟨⟨a, b, ?_, ?_, e3⟩, ?_, ?_⟩⟩ <;> simp [go_sem, hy0, hy1, hsz, f0, f1, f2, f3, g0, g1, g2, g3, e1, e2, e4, e5]
            case measure => simp [intOf]; omega
          · have hq2 : (xc.toList == cask.toList) = true := hq
            rw [hq, if_pos rfl] at hM
            clear hq
            have hneB : w.heap.size ≠ B := by omega
            have hneB1 : w.heap.size + 1 ≠ B := by omega
            cases o with
            | none =>
              dsimp only at hM
              subst hM
              go_wp2_with (go_at_call 69; refine (hAx.out _ ?_).mono ?_; (· go_grown); rintro e w5 ⟨rfl, hb5⟩; have hcc := gcell hb5; have hff := gfrozen hb5; have hbw5 := via (by go_grown : Below w.heap.size w _) hb5; have hz5 : wr.heap.size < w5.heap.size := (by have := hb5.size; simp at this; omega); have j0 : w.heap.size < w5.heap.size := (by omega); have j1 : w.heap.size + 1 < w5.heap.size := (by omega); have jB : B < w5.heap.size := (by omega); have e1' : w5.cell? ⟨B, 0, none⟩ = some (.int .i64 a) := (by rw [hcc _ _ (by simp; omega)]; simp [go_sem, hsz, e1]); have e2' : w5.cell? ⟨B, 1, none⟩ = some (.int .i64 b) := (by rw [hcc _ _ (by simp; omega)]; simp [go_sem, hsz, e2]); have e4' : w5.frozen? ⟨B, 0, none⟩ = false := (by rw [hff _ _ (by simp; omega)]; simp [go_sem, hsz, e4]); have e5' : w5.frozen? ⟨B, 1, none⟩ = false := (by rw [hff _ _ (by simp; omega)]; simp [go_sem, hsz, e5]))
              go_roundw
              case rel =>
                refine ⟨k + 1, by omega, by go_num, _, hst, rfl, by go_grown, by simp; omega, ?_⟩
                unfold OutI
                refine ⟨?_, ?_, ?_, ?_, ?_, ?_, ?_, ?_, ⟨⟨_, _, ?_, ?_, fun p hp => by cases hp; exact ⟨rfl, rfl⟩⟩, ?_, ?_⟩⟩ <;> simp [go_sem, hcc, hff, j0, j1, jB, hy0, hy1, hsz, f0, f1, f2, f3, g0, g1, g2, g3, e1', e2', e4, e5, e4', e5', hneB, hneB1]
              case measure => simp [intOf]; omega
            | some v =>
              obtain ⟨v1, v2⟩ := v
              dsimp only at hM
              obtain ⟨ea, eb⟩ := e3 _ rfl
              dsimp only at ea eb
              subst ea eb
              subst hM
              obtain ⟨M1, hM1⟩ : ∃ m, (if L1 < a then a else L1) = m := ⟨_, rfl⟩
              obtain ⟨M2, hM2⟩ : ∃ m, (if b < L2 then b else L2) = m := ⟨_, rfl⟩
              have h1 : max L1 a = M1 := by rw [← hM1]; split <;> omega
              have h2 : min L2 b = M2 := by rw [← hM2]; split <;> omega
              rw [h1, h2] at hst
              clear h1 h2 e3
              go_wp2_with (go_at_call 69; refine (hAx.out _ ?_).mono ?_; (· go_grown); rintro e w5 ⟨rfl, hb5⟩; have hcc := gcell hb5; have hff := gfrozen hb5; have hbw5 := via (by go_grown : Below w.heap.size w _) hb5; have hz5 : wr.heap.size < w5.heap.size := (by have := hb5.size; simp at this; omega); have j0 : w.heap.size < w5.heap.size := (by omega); have j1 : w.heap.size + 1 < w5.heap.size := (by omega); have jB : B < w5.heap.size := (by omega); have e1' : w5.cell? ⟨B, 0, none⟩ = some (.int .i64 a) := (by rw [hcc _ _ (by simp; omega)]; simp [go_sem, hsz, e1]); have e2' : w5.cell? ⟨B, 1, none⟩ = some (.int .i64 b) := (by rw [hcc _ _ (by simp; omega)]; simp [go_sem, hsz, e2]); have e4' : w5.frozen? ⟨B, 0, none⟩ = false := (by rw [hff _ _ (by simp; omega)]; simp [go_sem, hsz, e4]); have e5' : w5.frozen? ⟨B, 1, none⟩ = false := (by rw [hff _ _ (by simp; omega)]; simp [go_sem, hsz, e5]))
              go_roundw
              case rel =>
                refine ⟨k + 1, by omega, by go_num, _, hst, rfl, by go_grown, by simp; omega, ?_⟩
                unfold OutI
                refine ⟨?_, ?_, ?_, ?_, ?_, ?_, ?_, ?_, ⟨⟨_, _, ?_, ?_, fun p hp => by cases hp; exact ⟨rfl, rfl⟩⟩, ?_, ?_⟩⟩ <;> simp [go_sem, hcc, hff, j0, j1, jB, hy0, hy1, hsz, f0, f1, f2, f3, g0, g1, g2, g3, e1', e2', e4, e5, e4', e5', hneB, hneB1]
              case measure => simp [intOf]; omega
        · have hkn : k = n := by omega
          have ho2 := ho.out
          rw [hkn, List.take_of_length_le (by rw [hn'.out]; omega)] at ho2
          have hV2 := hV'.out
          rw [ho2] at hV2
          have hbo := hbd.out k
          rw [ho.out] at hbo
          clear ho2 hV'
          cases o with
          | none =>
            dsimp only at hV2
            simp only [Prod.mk.injEq] at hV2
            obtain ⟨⟨rfl, rfl⟩, rfl⟩ := hV2
            go_wp2
            refine bodyPost_ret (v := .tuple #[.agg #[.int .i64 0, .int .i64 0], .int .i64 12]) ?_ rfl ⟨rfl, ?_⟩
            · simp [results, Tryz.results47, go_sem, g0, g1, g2, g3, hy0, hy1]
            · go_grown
          | some v =>
            obtain ⟨v1, v2⟩ := v
            obtain ⟨ea, eb⟩ := e3 _ rfl
            dsimp only at ea eb hV2
            subst ea eb
            have hbo2 := hbo _ _ rfl
            have hT := Lib.hid fun W => told_any a b W (by omega) (by omega) (by omega) (by omega)
            simp only [Prod.mk.injEq] at hV2
            obtain ⟨⟨i1, i2⟩, rfl⟩ := hV2
            rw [i1, i2] at hT
            clear i1 i2 hbo e3
            simp only [Option.isSome_some]
            go_wp2_with (go_at_call 70; refine (hT.out _).mono ?_; rintro e w5 ⟨rfl, hb5⟩; have hcc := gcell hb5; have hff := gfrozen hb5; have hbw5 := via (by go_grown : Below w.heap.size w _) hb5; have hz5 : w.heap.size + 1 < w5.heap.size := (by have := hb5.size; omega); have g0' := (hcc _ 0 hy1).trans g0; have g1' := (hcc _ 1 hy1).trans g1; have g2' := (hff _ 0 hy1).trans g2; have g3' := (hff _ 1 hy1).trans g3)
            refine bodyPost_ret (v := .tuple #[.agg #[.int .i64 V1, .int .i64 V2], .int .i64 0]) ?_ rfl ⟨rfl, ?_⟩
            · simp [results, Tryz.results47, go_sem, g0', g1', g2', g3', hz5]
            · go_grown
theorem at_any (l0 l1 : Int) (A A2 : Option Addr) (rs : List Rd) (ms : List Mv) (c c2 : Nat) (cask : ByteArray) (day : Int) (w : World) (hok : Right l0 l1 rs ms) (hat : At 4 Rd.cs w A rs) (hat2 : At 4 Mv.cs w A2 ms)
    (hd0 : 0 ≤ day) (hd1 : day ≤ 100000) :
    Calls Tryz.prog 47 #[.agg #[.int .i64 l0, .int .i64 l1, .slice A rs.length c, .slice A2 ms.length c2], .string cask, .int .i64 day] w fun e w' =>
      e = .returned (.tuple #[.agg #[.int .i64 (atV l0 l1 rs ms cask day).1.1, .int .i64 (atV l0 l1 rs ms cask day).1.2], .int .i64 (atV l0 l1 rs ms cask day).2]) ∧ Below w.heap.size w w' := by
  cases h : clashed rs cask (allPairs l0 l1 rs ms)
  · exact at_good l0 l1 A A2 rs ms c c2 cask day w hok hat hat2 h hd0 hd1
  · have := at_clash l0 l1 A A2 rs ms c c2 cask day w hok hat hat2 h
    unfold atV
    rw [if_pos h]
    exact this
end Go.Proofs
