import Derived.Test.YtmnjoamkaapjcaaGreatMg6
import Derived.Test.YtmnjoamkaapjcaaGreatMg4
set_option linter.unusedSimpArgs false
set_option linter.unusedVariables false
namespace Go.Proofs
open Go.RowKit

theorem grown_of_below {w w' : World} (hb : Below w.heap.size w w') : w.grownBy w' none := ⟨hb.os, hb.tape, hb.output, hb.size, fun k hk _ => hb.block k hk⟩
theorem owns_below {w w' : World} {base : Nat} {e : TypeId} {size : Nat} {v : Value} {n : Nat} {xs : List Value} (h : w.ownsRow base e size v n xs) (hb : Below w.heap.size w w') : w'.ownsRow base e size v n xs :=
  h.kept (grown_of_below hb) (by cases v.ownBlock <;> simp)
theorem flat_get {α β : Type} (cs : α → List β) (sz : Nat) (hsz : ∀ x, (cs x).length = sz) : ∀ (l : List α) (k j : Nat) (x : α) (v : β), l[k]? = some x → (cs x)[j]? = some v → (l.flatMap cs)[k * sz + j]? = some v
  | [], k, j, x, v, h, _ => by simp at h
  | a :: l, 0, j, x, v, h, hv => by
    simp only [List.getElem?_cons_zero, Option.some.injEq] at h
    subst h
    rw [List.flatMap_cons, Nat.zero_mul, Nat.zero_add, List.getElem?_append_left (List.getElem?_eq_some_iff.1 hv).1]
    exact hv
  | a :: l, k + 1, j, x, v, h, hv => by
    simp only [List.getElem?_cons_succ] at h
    have ih := flat_get cs sz hsz l k j x v h hv
    rw [List.flatMap_cons, List.getElem?_append_right (by rw [hsz]; rw [Nat.succ_mul]; omega), hsz, show (k + 1) * sz + j - sz = k * sz + j by rw [Nat.succ_mul]; omega]
    exact ih
theorem at_of_owns {α : Type} {cs : α → List Value} {sz base : Nat} {e : TypeId} {w : World} {v : Value} {l : List α} (hsz : ∀ x, (cs x).length = sz) (h : w.ownsRow base e sz v l.length (l.flatMap cs)) :
    ∃ A cap, v = .slice A l.length cap ∧ At sz cs w A l := by
  rcases h.2 with ⟨rfl, hn⟩ | ⟨g, cap, cur, rfl, hb, hg, hnc, hcm, hcs, ht⟩
  · have : l = [] := List.eq_nil_of_length_eq_zero hn
    subst this
    exact ⟨none, 0, rfl, fun k x hx => by simp at hx⟩
  · refine ⟨some ⟨g, 0, none⟩, cap, rfl, fun k x hx => ⟨g, 0, rfl, (Array.getElem?_eq_some_iff.1 hg).1, fun j u hu => ?_⟩⟩
    have hf := flat_get cs sz hsz l k j x u hx hu
    have hj : j < sz := by rw [← hsz x]; exact (List.getElem?_eq_some_iff.1 hu).1
    have hkl : k < l.length := (List.getElem?_eq_some_iff.1 hx).1
    have hlt : k * sz + j < l.length * sz := by
      have := Nat.mul_le_mul_right sz (Nat.succ_le_of_lt hkl)
      rw [Nat.succ_mul] at this
      omega
    rw [Nat.zero_add, h.cellAt _ hlt]
    exact hf

def Pc (p : Nat × Nat) : List Value := [.int .i64 p.1, .int .i64 p.2]
def contraAt (l0 l1 : Int) (rs : List Rd) (ms : List Mv) (i j : Nat) : Bool :=
  match rs[i]?, rs[j]? with
  | some x, some y => contra l0 l1 ms x y
  | _, _ => false
/-- The pairs (i, a) with i < a < k that a test takes. -/
def pin (C : Nat → Nat → Bool) (i k : Nat) : List (Nat × Nat) := ((List.range k).filter fun j => decide (i < j) && C i j).map fun j => (i, j)
def pout (C : Nat → Nat → Bool) (n i : Nat) : List (Nat × Nat) := (List.range i).flatMap fun a => pin C a n
theorem pin_start (C : Nat → Nat → Bool) (i : Nat) : pin C i (i + 1) = [] := by
  unfold pin
  rw [List.map_eq_nil_iff, List.filter_eq_nil_iff]
  intro a ha
  have := List.mem_range.1 ha
  have : ¬ i < a := by omega
  simp [this]
theorem pin_small (C : Nat → Nat → Bool) (i n : Nat) (h : n ≤ i + 1) : pin C i n = [] := by
  unfold pin
  rw [List.map_eq_nil_iff, List.filter_eq_nil_iff]
  intro a ha
  have := List.mem_range.1 ha
  have : ¬ i < a := by omega
  simp [this]
theorem pin_yes (C : Nat → Nat → Bool) (i k : Nat) (h : i < k) (hc : C i k = true) : pin C i (k + 1) = pin C i k ++ [(i, k)] := by
  unfold pin; rw [List.range_succ, List.filter_append, List.map_append]; simp [h, hc]
theorem pin_no (C : Nat → Nat → Bool) (i k : Nat) (hc : C i k = false) : pin C i (k + 1) = pin C i k := by
  unfold pin; rw [List.range_succ, List.filter_append, List.map_append]; simp [hc]
theorem pout_succ (C : Nat → Nat → Bool) (n i : Nat) : pout C n (i + 1) = pout C n i ++ pin C i n := by
  unfold pout; rw [List.range_succ, List.flatMap_append]; simp
theorem pin_len (C : Nat → Nat → Bool) (i k : Nat) : (pin C i k).length ≤ k := by
  unfold pin; rw [List.length_map]
  exact Nat.le_trans (List.length_filter_le _ _) (by simp)
theorem pout_len (C : Nat → Nat → Bool) (n : Nat) : ∀ i, (pout C n i).length ≤ n * i
  | 0 => by simp [pout]
  | i + 1 => by
    rw [pout_succ, List.length_append, Nat.mul_succ]
    have := pout_len C n i
    have := pin_len C i n
    omega
def allPairs (l0 l1 : Int) (rs : List Rd) (ms : List Mv) : List (Nat × Nat) := pout (contraAt l0 l1 rs ms) rs.length rs.length

theorem info42 : (Tryz.prog.info? 55).map (fun i => (i.zero, i.size, i.bytes)) = some (some (.agg #[.int .i64 0, .int .i64 0]), 2, 16) := by kernel_rfl

set_option maxRecDepth 100000 in
set_option maxHeartbeats 2000000 in
theorem pairs_any (l0 l1 : Int) (A A2 : Option Addr) (rs : List Rd) (ms : List Mv) (c c2 : Nat) (w : World) (hok : Right l0 l1 rs ms) (hat : At 4 Rd.cs w A rs) (hat2 : At 4 Mv.cs w A2 ms) :
    Calls Tryz.prog 25 #[.agg #[.int .i64 l0, .int .i64 l1, .slice A rs.length c, .slice A2 ms.length c2]] w fun e w' =>
      (∃ A3 cap, e = .returned (.slice A3 (allPairs l0 l1 rs ms).length cap) ∧ At 2 Pc w' A3 (allPairs l0 l1 rs ms)) ∧ Below w.heap.size w w' := by
  have hC := fun i j x y W hx hy hW => contradict_any l0 l1 A A2 rs ms c c2 i j x y W hok hx hy (At.below hat hW) (At.below hat2 hW)
  have hCC : ∀ i j x y, rs[i]? = some x → rs[j]? = some y → contra l0 l1 ms x y = contraAt l0 l1 rs ms i j := fun i j x y hx hy => by unfold contraAt; rw [hx, hy]
  have hrn := hok.rn
  unfold allPairs
  generalize contraAt l0 l1 rs ms = C at *
  have hC2 : ∀ i j W, i < rs.length → j < rs.length → Below w.heap.size w W → Calls Tryz.prog 53 #[.agg #[.int .i64 l0, .int .i64 l1, .slice A rs.length c, .slice A2 ms.length c2], .int .i64 i, .int .i64 j] W fun e w' =>
      e = .returned (.bool (C i j)) ∧ Below W.heap.size W w' := fun i j W hi hj hW => by
    have := hC i j _ _ W (List.getElem?_eq_getElem hi) (List.getElem?_eq_getElem hj) hW
    rwa [hCC i j _ _ (List.getElem?_eq_getElem hi) (List.getElem?_eq_getElem hj)] at this
  have hC' := Lib.hid hC2
  generalize rs.length = n at *
  generalize ms.length = m at *
  clear hC hCC hC2 hok hat hat2
  obtain ⟨i0, hi, hz0, hz1, hz2⟩ := info_parts info42
  go_enter Tryz.func25, Tryz.ntmps25
  go_wp2
  go_loopw [3, 10] (fun v i wr => ∃ k : Nat, k ≤ n ∧ i = .int .i64 k ∧ wr.ownsRow (w.heap.size + 1) 55 2 v (pout C n k).length ((pout C n k).flatMap Pc) ∧ Below (w.heap.size + 1) (w.alloc (.cells #[.int .i64 l0, .int .i64 l1, .slice A n c, .slice A2 m c2] 66)) wr) (fun _ i _ => n - (intOf i).toNat)
  case atStart => exact ⟨0, Nat.zero_le _, rfl, World.ownsRow_nil _ _ _ _, Below.refl _ _⟩
  case round =>
    obtain ⟨k, hk, rfl, hown, hb⟩ := hrel
    have hbw : Below w.heap.size w wr := (new_below _ _).trans (hb.mono (by omega))
    by_cases hlt : k < n
    · obtain ⟨wo, rfl⟩ : ∃ wo : World, wo = wr := ⟨_, rfl⟩
      have hol := pout_len C n k
      have hkn : n * k ≤ 40 * 40 := Nat.mul_le_mul hrn (by omega)
      have hbw' := hbw.size
      go_wp2
      go_loopw [3, 5] (fun v i wr => ∃ j : Nat, k + 1 ≤ j ∧ j ≤ n ∧ i = .int .i64 j ∧ wr.ownsRow (w.heap.size + 1) 55 2 v (pout C n k ++ pin C k j).length ((pout C n k ++ pin C k j).flatMap Pc) ∧ Below (w.heap.size + 1) (w.alloc (.cells #[.int .i64 l0, .int .i64 l1, .slice A n c, .slice A2 m c2] 66)) wr) (fun _ i _ => n - (intOf i).toNat)
      case atStart => exact ⟨k + 1, Nat.le_refl _, by omega, by go_num, by rw [pin_start, List.append_nil]; exact hown, hb⟩
      case round =>
        obtain ⟨j, hkj, hj, rfl, hown1, hb1⟩ := hrel
        clear hown hb hbw hbw'
        have hbw1 : Below w.heap.size w wr := (new_below _ _).trans (hb1.mono (by omega))
        have hbw' := hbw1.size
        have hb1s : w.heap.size + 1 ≤ wr.heap.size := by have := hb1.size; simpa using this
        have hcc := fun o => hb1.cell (p := ⟨w.heap.size, o, none⟩) (by simp)
        by_cases hjn : j < n
        · cases hcb : C k j
          · have hc1 := hC'.out k j wr hlt hjn hbw1
            rw [hcb] at hc1
            have hc1' := Lib.hid hc1
            have hcb' := Lib.hid hcb
            have hown' := Lib.hid hown1
            clear hc1 hcb hown1
            go_wp2_with (go_at_call 53; refine hc1'.out.mono ?_; rintro e w2 ⟨rfl, hb2⟩)
            go_roundw
            case rel => exact ⟨j + 1, by omega, by omega, by go_num, by rw [pin_no C k j hcb'.out]; exact owns_below hown'.out hb2, hb1.trans (hb2.mono hb1s)⟩
            case measure => simp [intOf]; omega
          · have hc1 := hC'.out k j wr hlt hjn hbw1
            rw [hcb] at hc1
            have hc1' := Lib.hid hc1
            have hcb' := Lib.hid hcb
            have hown' := Lib.hid hown1
            have hlen := @List.length_append _ (pout C n k) (pin C k j)
            have hpl := pin_len C k j
            clear hc1 hcb hown1
            go_wp2_with (first
              | (at_builtin; refine wpList_append_own _ rfl _ _ 46 rfl (w.heap.size + 1) 55 i0 (.agg #[.int .i64 0, .int .i64 0]) 2 16 Tryz.underlying46 hi hz0 hz1 hz2 rfl (by decide) _ _ _ rfl (hown2.out.alloc _) ⟨w2.heap.size, 0, none⟩ 1 1 [.int .i64 (k : Int), .int .i64 (j : Int)] rfl rfl ?c1 ?c2 ?c3 ?c4 ?c5 ?_)
              | (go_at_call 53; refine hc1'.out.mono ?_; rintro e w2 ⟨rfl, hb2⟩; have hown2 := Lib.hid (owns_below hown'.out hb2); have hs2 := hb2.size))
            case c1 => exact cell_two_new _ _ _ _
            case c2 => intro u hu; simp at hu; rcases hu with rfl | rfl <;> rfl
            case c3 => unfold maxLen; omega
            case c4 => omega
            case c5 => simp; omega
            intro v' w3 hown3 hg3 _
            have hlt3 := hown2.out.lt
            have hbel : Below (w.heap.size + 1) (w.alloc (.cells #[.int .i64 l0, .int .i64 l1, .slice A n c, .slice A2 m c2] 66)) w3 :=
              ((hb1.trans (hb2.mono hb1s)).alloc (by omega) _).grown hg3 (by simp; omega) (fun r e => (hlt3 r e).1)
            have hown4 : w3.ownsRow (w.heap.size + 1) 55 2 v' (pout C n k ++ pin C k (j + 1)).length ((pout C n k ++ pin C k (j + 1)).flatMap Pc) := by
              rw [pin_yes C k j (by omega) hcb'.out]
              simpa [List.flatMap_append, Pc, Nat.add_assoc] using hown3
            have hown5 := Lib.hid hown4
            clear hown3 hown4 hg3 hlt3
            go_wp2
            go_roundw
            case rel => exact ⟨j + 1, by omega, by omega, by go_num, hown5.out, hbel⟩
            case measure => simp [intOf]; omega
        · have hjj : j = n := by omega
          subst hjj
          have hown' := Lib.hid hown1
          clear hown1
          go_wp2
          go_roundw
          case rel => exact ⟨k + 1, by omega, by go_num, by rw [pout_succ]; exact hown'.out, hb1⟩
          case measure => simp [intOf]; omega
    · have hkk : k = n := by omega
      subst hkk
      obtain ⟨A3, cap, rfl, hat3⟩ := at_of_owns (cs := Pc) (sz := 2) (fun _ => rfl) hown
      have hat3' := Lib.hid hat3
      clear hat3 hown
      go_wp2
      go_ret
      exact ⟨⟨A3, cap, rfl, hat3'.out⟩, hbw⟩
end Go.Proofs

set_option linter.unusedSimpArgs false
set_option linter.unusedVariables false
namespace Go.Proofs
open Go.RowKit

def Ic (d : Int) : List Value := [.int .i64 d]
theorem any_take {l : List Int} {k : Nat} {x y : Int} (hk : l[k]? = some y) (h : (l.take k).contains x = false) (hne : (y == x) = false) : (l.take (k + 1)).contains x = false := by
  rw [List.take_add_one, hk]
  simp only [Option.toList_some, List.contains_eq_any_beq, List.any_append, List.any_cons, List.any_nil, Bool.or_false] at h ⊢
  rw [h, Bool.false_or]
  rw [beq_eq_false_iff_ne] at hne ⊢
  exact fun e => hne e.symm
set_option maxRecDepth 100000 in
set_option maxHeartbeats 1000000 in
/-- Whether a list has a number. -/
theorem has_any (A : Option Addr) (l : List Int) (c : Nat) (x : Int) (w : World) (hl : l.length ≤ 9223372036854775807) (hat : At 1 Ic w A l) :
    Calls Tryz.prog 38 #[.slice A l.length c, .int .i64 x] w fun e w' => e = .returned (.bool (l.contains x)) ∧ w = w' := by
  obtain ⟨R, hR⟩ : ∃ R, l.contains x = R := ⟨_, rfl⟩
  have hR' := Lib.hid hR
  rw [hR]
  clear hR
  have hat' := Lib.hid hat
  clear hat
  go_enter Tryz.func38, Tryz.ntmps38
  go_wp2
  go_loop [5] (fun i => ∃ k : Nat, k ≤ l.length ∧ i = .int .i64 k ∧ Hid ((l.take k).contains x = false)) (fun i => l.length - (intOf i).toNat)
  case atStart => exact ⟨0, Nat.zero_le _, rfl, by unfold Hid; simp⟩
  case round =>
    obtain ⟨k, hk, rfl, hno⟩ := hrel
    by_cases hlt : k < l.length
    · obtain ⟨y, hy⟩ : ∃ y, l[k]? = some y := ⟨_, List.getElem?_eq_getElem hlt⟩
      obtain ⟨b, o, rfl, hbl, hc⟩ := hat'.out k y hy
      have c0 := hc 0 _ rfl
      simp only [Nat.add_zero, Nat.mul_one] at c0
      have hkI : (k : Int) < (l.length : Int) := by omega
      have hy' := Lib.hid hy
      clear hc hy
      cases hq : (y == x)
      case true =>
        have hT : R = true := by
          rw [← hR'.out]
          have e : y = x := by simpa using hq
          rw [List.contains_iff_mem, ← e]
          exact List.mem_of_getElem? hy'.out
        subst hT
        go_wp2
        go_ret
        exact ⟨rfl, rfl⟩
      case false =>
        have hgo : Hid ((l.take (k + 1)).contains x = false) := any_take hy'.out hno.out hq
        go_wp2
        go_round
        case rel => exact ⟨k + 1, by omega, by go_num, hgo⟩
        case measure => simp [intOf]; omega
    · have hF : R = false := by
        rw [← hR'.out]
        have := hno.out
        rwa [List.take_of_length_le (by omega)] at this
      subst hF
      have hlI : ¬ (k : Int) < (l.length : Int) := by omega
      go_wp2
      go_ret
      exact ⟨rfl, rfl⟩
end Go.Proofs
