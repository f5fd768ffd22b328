import Derived.Test.YtpmliaildjomeaaGreatDoorMg7
import Derived.Test.YtpmliaildjomeaaGreatDoorMg9
import Derived.WalkKit
import Derived.Test.YtpmliaildjomeaaGreatDoorMg6
import Derived.Test.YtpmliaildjomeaaGreatDoorMg4
set_option linter.unusedSimpArgs false
set_option linter.unusedVariables false
namespace Go.Proofs
open Go.RowKit

/-! Lists that the call owns. -/
theorem own_slice {w : World} {base : Nat} {e : TypeId} {size n : Nat} {v : Value} {xs : List Value} (h : w.ownsRow base e size v n xs) : ∃ A c, v = .slice A n c := by
  rcases h.2 with ⟨rfl, rfl⟩ | ⟨g, cap, cur, h1, -⟩
  · exact ⟨none, 0, rfl⟩
  · exact ⟨_, _, h1⟩
theorem owns_base {w : World} {base base' : Nat} {e : TypeId} {size n : Nat} {v : Value} {xs : List Value} (h : w.ownsRow base' e size v n xs) (hb : base ≤ base') : w.ownsRow base e size v n xs := by
  refine ⟨h.1, ?_⟩
  rcases h.2 with h | ⟨g, cap, cur, h1, h2, h3⟩
  · exact .inl h
  · exact .inr ⟨g, cap, cur, h1, Nat.le_trans hb h2, h3⟩
theorem owns_kept {w w' : World} {base : Nat} {e : TypeId} {sz n : Nat} {v : Value} {xs : List Value} (h : w.ownsRow base e sz v n xs) (hb : ∀ g, v.ownBlock = some g → w'.heap[g]? = w.heap[g]?) : w'.ownsRow base e sz v n xs := by
  refine ⟨h.1, ?_⟩
  rcases h.2 with h | ⟨g, cap, cur, rfl, h2, h3, h4⟩
  · exact .inl h
  · exact .inr ⟨g, cap, cur, rfl, h2, (hb g rfl).trans h3, h4⟩
theorem owns_grown {w w' : World} {base : Nat} {e : TypeId} {sz n : Nat} {v : Value} {xs : List Value} (h : w.ownsRow base e sz v n xs) {row : Option Nat} (hg : w.grownBy w' row) (hne : ∀ g, v.ownBlock = some g → some g ≠ row) : w'.ownsRow base e sz v n xs :=
  owns_kept h fun g e => hg.block g (h.lt g e).2 (hne g e)
theorem not_own {w : World} {base : Nat} {e : TypeId} {size n : Nat} {v : Value} {xs : List Value} (h : w.ownsRow base e size v n xs) {b : Nat} (hb : b < base) : some b ≠ v.ownBlock := by
  intro he
  have := (h.lt b he.symm).1
  omega
theorem bk_grown {x x' : World} {row : Option Nat} {b : Nat} {o : Obj} (hg : x.grownBy x' row) (h : x.heap[b]? = some o) (hne : some b ≠ row) : x'.heap[b]? = some o := (hg.block b (lt_of_block h) hne).trans h
theorem grown_below {w x x' : World} {row : Option Nat} (h : Below w.heap.size w x) (hg : x.grownBy x' row) (hr : ∀ b, row = some b → w.heap.size ≤ b) : Below w.heap.size w x' := h.grown hg h.size hr
theorem cells_new' (w : World) (vs : List Value) (t : TypeId) {n : Nat} (hn : n = w.heap.size) : ∀ j u, vs[j]? = some u → (w.alloc (.cells vs.toArray t)).cell? (Addr.add ⟨n, 0, none⟩ j) = some u := by
  subst hn
  intro j u hu
  have h := heap_alloc_new w (.cells vs.toArray t)
  have e : Addr.add ⟨w.heap.size, 0, none⟩ j = ⟨w.heap.size, j, none⟩ := by unfold Addr.add; split <;> simp_all
  rw [e]
  unfold World.cell?
  simp only [h]
  simpa using hu
/-- The cells of an own list, one by one. -/
theorem own_cell {w : World} {base : Nat} {e : TypeId} {A : Option Addr} {n c : Nat} {xs : List Value} (h : w.ownsRow base e 1 (.slice A n c) n xs) {k : Nat} {u : Value} (hu : xs[k]? = some u) : ∃ g, A = some ⟨g, 0, none⟩ ∧ base ≤ g ∧ g < w.heap.size ∧ w.cell? ⟨g, k, none⟩ = some u := by
  rcases h.2 with ⟨-, h2⟩ | ⟨g, cap, cur, h1, h2, h3, h4, h5, h6, h7⟩
  · have := h.1
    rw [h2, Nat.zero_mul] at this
    have : xs = [] := List.eq_nil_of_length_eq_zero this
    subst this
    simp at hu
  · cases h1
    refine ⟨g, rfl, h2, (Array.getElem?_eq_some_iff.1 h3).1, ?_⟩
    unfold World.cell?
    simp only [h3]
    have hk := (List.getElem?_eq_some_iff.1 hu).1
    have := h.1
    rw [← h7, List.getElem?_take, if_pos (by omega), Array.getElem?_toList] at hu
    simpa using hu
theorem own_ints {w : World} {base : Nat} {e : TypeId} {A : Option Addr} {n c : Nat} {l : List Int} (h : w.ownsRow base e 1 (.slice A n c) n (l.map (Value.int .i64))) : At 1 Zc w A l := by
  intro k x hx
  obtain ⟨g, hA, h1, h2, h3⟩ := own_cell h (k := k) (u := .int .i64 x) (by rw [List.getElem?_map, hx]; rfl)
  refine ⟨g, 0, hA, h2, fun j v hv => ?_⟩
  cases j with
  | zero => simp [Zc] at hv; subst hv; simpa using h3
  | succ j => simp [Zc] at hv
/-- The walk stands here. -/
theorem stop_here {P : Prop} (h : Hid P) : P := h.out
theorem zc_one (v : Value) : ([v] : List Value).toArray = #[v] := rfl
end Go.Proofs

set_option linter.unusedSimpArgs false
set_option linter.unusedVariables false
namespace Go.Proofs
open Go.RowKit

/-! The solution of equations. -/
def qOf (inst : Option Nat) : Int := match inst with
  | none => -1
  | some c => (c : Int)
theorem colQ_colF (r : List (List Int)) (inst : Option Nat) : colQ r (qOf inst) = colF r inst := by
  funext i c
  unfold colQ colF
  cases inst with
  | none =>
    have : ¬ ((c : Int) = qOf none) := by show ¬ ((c : Int) = -1); omega
    rw [if_neg this, if_neg (by simp)]
  | some d =>
    unfold qOf
    by_cases h : d = c
    · subst h; simp
    · have h1 : ¬ ((c : Int) = (d : Int)) := by omega
      have h2 : ¬ (some d = some c) := by simpa using h
      rw [if_neg h1, if_neg h2]
/-- All numbers of the rows are small. -/
def SmallR (r : List (List Int)) : Prop := ∀ row ∈ r, Small 400 row
theorem SmallR.entR {r : List (List Int)} (h : SmallR r) (i j : Nat) : (entR r i j).natAbs ≤ 400 := by
  unfold Go.Proofs.entR
  rw [List.getD_eq_getElem?_getD (l := r)]
  cases hi : r[i]? with
  | none => simp
  | some row => exact (h row (List.mem_of_getElem? hi)).get j
theorem SmallR.col {r : List (List Int)} (h : SmallR r) (q : Int) (n : Nat) : SmallF (colQ r q) n := fun i j _ _ => h.entR _ _
theorem detP_bound {f : Nat → Nat → Int} {n : Nat} (hn : n ≤ 5) (hf : SmallF f n) : (detP f n).natAbs ≤ 32000000000000000 := by
  unfold detP
  have h2 := Nat.two_pow_pos n
  have := dpM_bound hn hf (2 ^ n - 1) (by omega) (2 ^ n - 1) (Nat.le_refl _)
  refine Nat.le_trans this ?_
  have hp := pop_le n (List.mem_range.2 (by omega)) (2 ^ n - 1) (List.mem_range.2 (by omega))
  exact Nat.le_trans (Nat.pow_le_pow_right (by omega) (show pop n (2 ^ n - 1) ≤ 5 by omega)) (by decide)
/-- The numbers of a list of one's own, in memory. -/
def SolGot (r : List (List Int)) (n0 : Nat) (e : Ending) (w' : World) : Prop := match solL r with
  | none => e = .returned (.tuple #[.slice none 0 0, .int .i64 0, .bool false])
  | some (l, den) => ∃ v, e = .returned (.tuple #[v, .int .i64 den, .bool true]) ∧ w'.ownsRow n0 3 1 v l.length (l.map (Value.int .i64))
theorem det_is (A : Option Addr) (xs : List IR) (cp : Nat) (inst : Option Nat) (w : World) (hrows : RowsAt w A xs) (hl : ∀ x ∈ xs, x.l.length = xs.length + 1) (h1 : 1 ≤ xs.length) (h5 : xs.length ≤ 5) (hs : SmallR (xs.map IR.l)) :
    Calls Tryz.prog 123 #[.slice A xs.length cp, .int .i64 (qOf inst)] w fun e w' => e = .returned (.int .i64 (detL (xs.map IR.l) inst)) ∧ Below w.heap.size w w' := by
  have := det_any A xs cp xs.length (qOf inst) w hrows rfl hl h1 h5 (hs.col _ _)
  rw [colQ_colF] at this
  unfold detL
  rw [List.length_map]
  exact this
set_option maxRecDepth 100000 in
set_option maxHeartbeats 2000000 in
theorem sol_any (A : Option Addr) (xs : List IR) (cp : Nat) (w : World) (hrows : RowsAt w A xs) (hl : ∀ x ∈ xs, x.l.length = xs.length + 1) (h1 : 1 ≤ xs.length) (h5 : xs.length ≤ 5) (hs : SmallR (xs.map IR.l)) :
    Calls Tryz.prog 108 #[.slice A xs.length cp] w fun e w' => SolGot (xs.map IR.l) w.heap.size e w' ∧ Below w.heap.size w w' := by
  have hD := Lib.hid fun inst W (hb : Below w.heap.size w W) => det_is A xs cp inst W (hrows.below hb) hl h1 h5 hs
  have hbd := Lib.hid fun inst => (by
    have := detP_bound h5 (hs.col (qOf inst) xs.length)
    rw [colQ_colF] at this
    unfold detL
    rw [List.length_map]
    exact this : (detL (xs.map IR.l) inst).natAbs ≤ 32000000000000000)
  have hlen : (xs.map IR.l).length = xs.length := List.length_map ..
  obtain ⟨N, hN⟩ : ∃ N, xs.length = N := ⟨_, rfl⟩
  obtain ⟨r, hr⟩ : ∃ r, xs.map IR.l = r := ⟨_, rfl⟩
  rw [hN] at hD h5 h1 hlen ⊢
  rw [hr] at hD hbd hlen ⊢
  have hlen' := Lib.hid hlen
  clear hrows hl hs hN hr hlen
  have hD0 := Lib.hid fun W hb => hD.out none W hb
  have hb0 := hbd.out none
  obtain ⟨d0, hd0⟩ : ∃ d, detL r none = d := ⟨_, rfl⟩
  rw [hd0] at hD0 hb0
  have hd0' := Lib.hid hd0
  by_cases hz : d0 = 0
  · subst hz
    go_enter Tryz.func108, Tryz.ntmps108
    go_wp2_with (go_at_call 123; refine (hD0.out _ (Below.refl _ _)).mono ?_; rintro e w1 ⟨rfl, hb1⟩)
    refine bodyPost_ret (v := .tuple #[.slice none 0 0, .int .i64 0, .bool false]) ?_ rfl ⟨?_, hb1⟩
    · simp [results, Tryz.results108, go_sem]
    · unfold SolGot solL
      rw [if_pos hd0'.out]
  · have hzb : (d0 == 0) = false := by simpa using hz
    have hall := Lib.hid (show solL r = some ((List.range N).map fun i => sgnI d0 * detL r (some i), sgnI d0 * d0) from by unfold solL; rw [if_neg (by rw [hd0'.out]; exact hz), hd0'.out, hlen'.out])
    obtain ⟨i0, hi, hz0, hz1, hz2⟩ := info_parts Tryz.info3
    clear hd0
    by_cases hneg : d0 < 0
    · have hsg : sgnI d0 = -1 := by unfold sgnI; rw [if_pos hneg]
      obtain ⟨L, hL⟩ : ∃ L : Nat → List Int, (fun k => (List.range k).map fun i => sgnI d0 * detL r (some i)) = L := ⟨_, rfl⟩
      have hLk : ∀ k, ((List.range k).map fun i => sgnI d0 * detL r (some i)) = L k := fun k => by rw [← hL]
      have hLs : ∀ k, L (k + 1) = L k ++ [-1 * detL r (some k)] := fun k => by rw [← hLk, ← hLk, List.range_succ, hsg]; simp
      have hLl : ∀ k, (L k).length = k := fun k => by rw [← hLk]; simp
      have hL0 : L 0 = [] := List.eq_nil_of_length_eq_zero (hLl 0)
      have hLs' := Lib.hid hLs
      have hLl' := Lib.hid hLl
      rw [hLk] at hall
      have hw1 : IntKind.i64.wrap (-d0) = -d0 := IntWalk.i64_in _ (by omega)
      clear hL hLk hLs hLl
      go_enter Tryz.func108, Tryz.ntmps108
      go_wp2_with (go_at_call 123; refine (hD0.out _ (Below.refl _ _)).mono ?_; rintro e w1 ⟨rfl, hb1⟩)
      go_loopw [7, 17] (fun v i wr => ∃ k : Nat, k ≤ N ∧ i = .int .i64 k ∧ wr.ownsRow w.heap.size 3 1 v k ((L k).map (Value.int .i64)) ∧ Below w.heap.size w wr) (fun _ i _ => N - (intOf i).toNat)
      case atStart => exact ⟨0, Nat.zero_le _, rfl, by rw [hL0]; exact World.ownsRow_nil _ _ _ _, hb1⟩
      case round =>
        clear hb1
        obtain ⟨k, hk, rfl, hown, hbw⟩ := hrel
        obtain ⟨Av, cv, rfl⟩ := own_slice hown
        have hown' := Lib.hid hown
        clear hown
        by_cases hlt : k < N
        · have hkI : (k : Int) < (N : Int) := by omega
          have hDk := Lib.hid fun W hb => hD.out (some k) W hb
          have hbk := hbd.out (some k)
          have hq : Hid (qOf (some k) = (k : Int)) := rfl
          have hs := hLs'.out k
          obtain ⟨x, hx⟩ : ∃ x, detL r (some k) = x := ⟨_, rfl⟩
          rw [hx] at hDk hbk hs
          rw [hq.out] at hDk
          have hw2 : IntKind.i64.wrap (-x) = -x := IntWalk.i64_in _ (by omega)
          have hs' := Lib.hid (show L (k + 1) = L k ++ [-x] from by rw [hs]; simp)
          clear hx hs hq
          go_wp2_with (first
            | (go_at_call 123
               refine (hDk.out _ hbw).mono ?_
               rintro e w2 ⟨rfl, hb2⟩
               have hbw2 := via hbw hb2
               have hown2 := Lib.hid (owns_below hown'.out hb2))
            | (at_builtin; refine wpList_append_own _ rfl _ _ 33 rfl w.heap.size 3 i0 (.int .i64 0) 1 8 Tryz.underlying33 hi hz0 hz1 hz2 rfl (by decide) _ _ _ rfl (hown2.out.alloc _) ⟨w2.heap.size, 0, none⟩ 1 1 [.int .i64 (-x)] rfl rfl ?c1 ?c2 ?c3 ?c4 ?c5 ?_))
          case c1 => exact cells_new' _ [.int .i64 (-x)] _ (by simp)
          case c2 => intro u hu; simp at hu; subst hu; rfl
          case c3 => unfold maxLen; omega
          case c4 => omega
          case c5 => have := hbw2.size; simp; omega
          intro v' w3 hown3 hg3 _
          have hbw3 : Below w.heap.size w w3 := grown_below (via hbw2 (new_below _ _)) hg3 fun b e => (hown2.out.lt b e).1
          have hown4 : Hid (w3.ownsRow w.heap.size 3 1 v' (k + 1) ((L (k + 1)).map (Value.int .i64))) := Lib.hid (by rw [hs'.out, List.map_append]; exact hown3)
          clear hown3 hg3 hown2 hs' hbk hw2
          go_wp2
          go_roundw
          case rel => exact ⟨k + 1, by omega, by go_num, hown4.out, hbw3⟩
          case measure => first | (simp [intOf]; done) | (simp [intOf]; omega)
        · obtain rfl : k = N := by omega
          clear hlt
          go_wp2
          refine bodyPost_ret (v := .tuple #[.slice Av k cv, .int .i64 (-d0), .bool true]) ?_ rfl ⟨?_, hbw⟩
          · simp [results, Tryz.results108, go_sem]
          · unfold SolGot
            rw [hall.out]
            exact ⟨.slice Av k cv, by rw [hsg]; simp, by rw [hLl'.out]; exact hown'.out⟩
    · have hsg : sgnI d0 = 1 := by unfold sgnI; rw [if_neg hneg]
      obtain ⟨L, hL⟩ : ∃ L : Nat → List Int, (fun k => (List.range k).map fun i => sgnI d0 * detL r (some i)) = L := ⟨_, rfl⟩
      have hLk : ∀ k, ((List.range k).map fun i => sgnI d0 * detL r (some i)) = L k := fun k => by rw [← hL]
      have hLs : ∀ k, L (k + 1) = L k ++ [1 * detL r (some k)] := fun k => by rw [← hLk, ← hLk, List.range_succ, hsg]; simp
      have hLl : ∀ k, (L k).length = k := fun k => by rw [← hLk]; simp
      have hL0 : L 0 = [] := List.eq_nil_of_length_eq_zero (hLl 0)
      have hLs' := Lib.hid hLs
      have hLl' := Lib.hid hLl
      rw [hLk] at hall
      have hw1 : IntKind.i64.wrap (d0) = d0 := IntWalk.i64_in _ (by omega)
      clear hL hLk hLs hLl
      go_enter Tryz.func108, Tryz.ntmps108
      go_wp2_with (go_at_call 123; refine (hD0.out _ (Below.refl _ _)).mono ?_; rintro e w1 ⟨rfl, hb1⟩)
      go_loopw [7, 17] (fun v i wr => ∃ k : Nat, k ≤ N ∧ i = .int .i64 k ∧ wr.ownsRow w.heap.size 3 1 v k ((L k).map (Value.int .i64)) ∧ Below w.heap.size w wr) (fun _ i _ => N - (intOf i).toNat)
      case atStart => exact ⟨0, Nat.zero_le _, rfl, by rw [hL0]; exact World.ownsRow_nil _ _ _ _, hb1⟩
      case round =>
        clear hb1
        obtain ⟨k, hk, rfl, hown, hbw⟩ := hrel
        obtain ⟨Av, cv, rfl⟩ := own_slice hown
        have hown' := Lib.hid hown
        clear hown
        by_cases hlt : k < N
        · have hkI : (k : Int) < (N : Int) := by omega
          have hDk := Lib.hid fun W hb => hD.out (some k) W hb
          have hbk := hbd.out (some k)
          have hq : Hid (qOf (some k) = (k : Int)) := rfl
          have hs := hLs'.out k
          obtain ⟨x, hx⟩ : ∃ x, detL r (some k) = x := ⟨_, rfl⟩
          rw [hx] at hDk hbk hs
          rw [hq.out] at hDk
          have hw2 : IntKind.i64.wrap (x) = x := IntWalk.i64_in _ (by omega)
          have hs' := Lib.hid (show L (k + 1) = L k ++ [x] from by rw [hs]; simp)
          clear hx hs hq
          go_wp2_with (first
            | (go_at_call 123
               refine (hDk.out _ hbw).mono ?_
               rintro e w2 ⟨rfl, hb2⟩
               have hbw2 := via hbw hb2
               have hown2 := Lib.hid (owns_below hown'.out hb2))
            | (at_builtin; refine wpList_append_own _ rfl _ _ 33 rfl w.heap.size 3 i0 (.int .i64 0) 1 8 Tryz.underlying33 hi hz0 hz1 hz2 rfl (by decide) _ _ _ rfl (hown2.out.alloc _) ⟨w2.heap.size, 0, none⟩ 1 1 [.int .i64 (x)] rfl rfl ?c1 ?c2 ?c3 ?c4 ?c5 ?_))
          case c1 => exact cells_new' _ [.int .i64 (x)] _ (by simp)
          case c2 => intro u hu; simp at hu; subst hu; rfl
          case c3 => unfold maxLen; omega
          case c4 => omega
          case c5 => have := hbw2.size; simp; omega
          intro v' w3 hown3 hg3 _
          have hbw3 : Below w.heap.size w w3 := grown_below (via hbw2 (new_below _ _)) hg3 fun b e => (hown2.out.lt b e).1
          have hown4 : Hid (w3.ownsRow w.heap.size 3 1 v' (k + 1) ((L (k + 1)).map (Value.int .i64))) := Lib.hid (by rw [hs'.out, List.map_append]; exact hown3)
          clear hown3 hg3 hown2 hs' hbk hw2
          go_wp2
          go_roundw
          case rel => exact ⟨k + 1, by omega, by go_num, hown4.out, hbw3⟩
          case measure => first | (simp [intOf]; done) | (simp [intOf]; omega)
        · obtain rfl : k = N := by omega
          clear hlt
          go_wp2
          refine bodyPost_ret (v := .tuple #[.slice Av k cv, .int .i64 (d0), .bool true]) ?_ rfl ⟨?_, hbw⟩
          · simp [results, Tryz.results108, go_sem]
          · unfold SolGot
            rw [hall.out]
            exact ⟨.slice Av k cv, by rw [hsg]; simp, by rw [hLl'.out]; exact hown'.out⟩
end Go.Proofs

set_option linter.unusedSimpArgs false
set_option linter.unusedVariables false
namespace Go.Proofs
open Go.RowKit
section
variable {P : Program} {ops : Array Oper}
/-- What a region's text must be like: what an operation looks at is written by operations that it waits for, each slot by one operation alone, and all wait for earlier ones. -/
def slotsOk (ops : Array Oper) : Bool :=
  (List.range ops.size).all fun i => match ops[i]? with
  | none => true
  | some o =>
    ((o.looksAt ops).all fun s => (List.range ops.size).all fun j => match ops[j]? with
      | none => true
      | some oj => oj.dst != some s || (decide (j < i) && o.after.any fun e => Region.binds .any e && e.on == j)) &&
    ((List.range ops.size).all fun j => match ops[j]? with
      | none => true
      | some oj => j == i || o.dst.isNone || oj.dst != o.dst) &&
    (o.after.all fun e => !Region.binds .any e || decide (e.on < i))
structure SlotsOk (ops : Array Oper) : Prop where
  look : ∀ (i : Nat) (o : Oper) (s j : Nat) (oj : Oper), ops[i]? = some o → s ∈ o.looksAt ops → ops[j]? = some oj → oj.dst = some s → j < i ∧ ∃ e ∈ o.after, Region.binds .any e = true ∧ e.on = j
  dst : ∀ (i j : Nat) (o oj : Oper) (s : Nat), ops[i]? = some o → ops[j]? = some oj → o.dst = some s → oj.dst = some s → j = i
  after : ∀ (i : Nat) (o : Oper) (e : Edge), ops[i]? = some o → e ∈ o.after → Region.binds .any e = true → e.on < i
theorem lt_of_some {i : Nat} {o : Oper} (h : ops[i]? = some o) : i < ops.size := (Array.getElem?_eq_some_iff.1 h).1
theorem slotsOk_spec (h : slotsOk ops = true) : SlotsOk ops := by
  unfold slotsOk at h
  simp only [List.all_eq_true, List.mem_range] at h
  refine ⟨fun i o s j oj hi hs hj hd => ?_, fun i j o oj s hi hj hd hd' => ?_, fun i o e hi he hb => ?_⟩
  · have h1 := h i (lt_of_some hi)
    simp only [hi, Bool.and_eq_true, List.all_eq_true, List.mem_range] at h1
    have h2 := h1.1.1 s hs j (lt_of_some hj)
    simp only [hj, hd, Bool.or_eq_true, Bool.and_eq_true, decide_eq_true_eq, bne_self_eq_false, Bool.false_eq_true, false_or] at h2
    obtain ⟨h3, h4⟩ := h2
    obtain ⟨e, he, hb⟩ := Array.any_eq_true'.1 h4
    simp only [Bool.and_eq_true, beq_iff_eq] at hb
    exact ⟨h3, e, he, hb⟩
  · have h1 := h i (lt_of_some hi)
    simp only [hi, Bool.and_eq_true, List.all_eq_true, List.mem_range] at h1
    have h2 := h1.1.2 j (lt_of_some hj)
    simpa [hj, hd, hd'] using h2
  · have h1 := h i (lt_of_some hi)
    simp only [hi, Bool.and_eq_true] at h1
    have h2 := Array.all_eq_true_iff_forall_mem.1 h1.2 e he
    simpa [hb] using h2

theorem act_ext {a b : Act} (h1 : a.defers = b.defers) (h2 : ∀ s : Nat, a.tmps[s]? = b.tmps[s]?) : a = b := by
  obtain ⟨t, d⟩ := a
  obtain ⟨t', d'⟩ := b
  dsimp only at h1 h2
  subst h1
  have : t = t' := Array.ext_getElem? h2
  subst this
  rfl
theorem eval_same {a b : Act} {x : Operand} (h : ∀ t : Nat, x = .tmp t → a.tmps[t]? = b.tmps[t]?) : a.eval x = b.eval x := by
  cases x with
  | tmp t =>
    have := h t rfl
    simp [Act.eval, this]
  | _ => rfl
theorem exec_same {o : Oper} {a b : Act} (hsel : ∀ cs b, o.op ≠ .select cs b) (h : ∀ s ∈ o.looksAt ops, a.tmps[s]? = b.tmps[s]?) : execOp a.eval o = execOp b.eval o :=
  execOp_congr o hsel fun x hx => eval_same fun t ht => h t (by
    subst ht
    exact List.mem_append_left _ (List.mem_filterMap.2 ⟨.tmp t, by simpa using hx, rfl⟩))
theorem wanted_same {o : Oper} {a b : Act} (h : ∀ s ∈ o.looksAt ops, a.tmps[s]? = b.tmps[s]?) : Region.wanted o (yielded ops a.tmps) = Region.wanted o (yielded ops b.tmps) := by
  unfold Region.wanted
  cases hg : o.guard with
  | none => rfl
  | some gw =>
    obtain ⟨g, want⟩ := gw
    have hy : yielded ops a.tmps g = yielded ops b.tmps g := by
      unfold yielded
      cases ht : (ops[g]?).bind (·.dst) with
      | none => rfl
      | some t =>
        have := h t (by simp [Oper.looksAt, hg, ht])
        simp [this]
    simp only [hy]
theorem yields_same {C : World → Prop} {o : Oper} {v : Value} {a b : Act} (hsel : ∀ cs b, o.op ≠ .select cs b) (h : ∀ s ∈ o.looksAt ops, a.tmps[s]? = b.tmps[s]?) (hy : YieldsIn P ops C o v a) : YieldsIn P ops C o v b :=
  hy.of_same (exec_same hsel h).symm (wanted_same h).symm
theorem put_get {a : Act} {d : Option Tmp} {v : Value} {s : Nat} (h : d ≠ some s) : (a.put d v).tmps[s]? = a.tmps[s]? := by
  cases d with
  | none => rfl
  | some d =>
    have hne : d ≠ s := fun e => h (by rw [e])
    simp [Act.put, Array.getElem?_setIfInBounds_ne hne]
theorem put_size {a : Act} {d : Option Tmp} {v : Value} : (a.put d v).tmps.size = a.tmps.size := by cases d <;> simp [Act.put]
theorem put_defers {a : Act} {d : Option Tmp} {v : Value} : (a.put d v).defers = a.defers := by cases d <;> rfl
theorem put_at {a : Act} {d : Nat} {v : Value} (h : d < a.tmps.size) : (a.put (some d) v).tmps[d]? = some v := by simp [Act.put, h]
theorem put_out {a : Act} {d : Nat} {v : Value} (h : ¬ d < a.tmps.size) : (a.put (some d) v).tmps[d]? = none := by simp [Act.put]; omega

/-- The walk of the text: what each operation yields in the frame at the end. -/
theorem fin_of_quiet (H : SlotsOk ops) (hsel : ∀ (j : Nat) (o : Oper) cs b, ops[j]? = some o → o.op ≠ .select cs b) {C : World → Prop} {af : Act} : ∀ (l : List Oper) (k : Nat) (a : Act), (∀ j, l[j]? = ops[k + j]?) → wpQuiet P ops C (fun a' => a' = af) l a →
    (∀ i o, k ≤ i → ops[i]? = some o → ∃ v, YieldsIn P ops C o v af ∧ ∀ d, o.dst = some d → d < af.tmps.size → af.tmps[d]? = some v) ∧ a.tmps.size = af.tmps.size ∧ a.defers = af.defers ∧
      ∀ s, (∀ j oj, k ≤ j → ops[j]? = some oj → oj.dst ≠ some s) → a.tmps[s]? = af.tmps[s]?
  | [], k, a, hl, h => by
    have h' : a = af := h
    subst h'
    refine ⟨fun i o hi ho => ?_, rfl, rfl, fun s _ => rfl⟩
    have := hl (i - k)
    rw [show k + (i - k) = i by omega, ho] at this
    simp at this
  | o :: rest, k, a, hl, h => by
    have h0 : ops[k]? = some o := by simpa using (hl 0).symm
    have hq : qOp P ops C k (wpQuiet P ops C (fun a' => a' = af) rest) a := by unfold qOp; simp only [h0]; exact h
    obtain ⟨v, hy, hK⟩ := yieldsIn_of_qOp h0 hq
    obtain ⟨i1, i2, i3, i4⟩ := fin_of_quiet H hsel rest (k + 1) (a.put o.dst v) (fun j => by have := hl (j + 1); rw [List.getElem?_cons_succ] at this; rw [this]; congr 1; omega) hK
    have hag : ∀ s ∈ o.looksAt ops, a.tmps[s]? = af.tmps[s]? := fun s hs => by
      have hw : ∀ j oj, k ≤ j → ops[j]? = some oj → oj.dst ≠ some s := fun j oj hj ho hd => by
        have := (H.look k o s j oj h0 hs ho hd).1
        omega
      rw [← i4 s (fun j oj hj => hw j oj (by omega)), put_get (hw k o (Nat.le_refl _) h0)]
    refine ⟨fun i o' hi ho => ?_, by rw [← i2, put_size], by rw [← i3, put_defers], fun s hs => ?_⟩
    · by_cases hik : i = k
      · subst hik
        obtain rfl : o = o' := Option.some.inj (h0.symm.trans ho)
        refine ⟨v, yields_same (hsel _ _ · · h0) hag hy, fun d hd hlt => ?_⟩
        rw [← i4 d (fun j oj hj hoj hdj => by have := H.dst i j o oj d h0 hoj hd hdj; omega), hd]
        exact put_at (by rw [← put_size (a := a) (d := o.dst) (v := v), i2]; exact hlt)
      · exact i1 i o' (by omega) ho
    · rw [← i4 s (fun j oj hj => hs j oj (by omega)), put_get (hs k o (Nat.le_refl _) h0)]

/-! How many have not come up. -/
def unlisted (n : Nat) (listed : Array Bool) : Nat := ((List.range n).filter fun j => !listed.getD j true).length
theorem filter_less {α : Type} {p q : α → Bool} : ∀ (l : List α), (∀ x, q x = true → p x = true) → (l.filter q).length ≤ (l.filter p).length
  | [], _ => Nat.le_refl _
  | x :: l, h => by
    have ih := filter_less l h
    simp only [List.filter_cons]
    by_cases hq : q x = true
    · rw [if_pos hq, if_pos (h x hq)]; simpa using ih
    · rw [if_neg hq]
      split
      · simp only [List.length_cons]; omega
      · exact ih
theorem filter_fewer {α : Type} {p q : α → Bool} : ∀ (l : List α), (∀ x, q x = true → p x = true) → (∃ x ∈ l, p x = true ∧ q x = false) → (l.filter q).length < (l.filter p).length
  | [], _, h => by obtain ⟨x, hx, _⟩ := h; cases hx
  | y :: l, h, hx => by
    obtain ⟨x, hm, hp, hq⟩ := hx
    simp only [List.filter_cons]
    rcases List.mem_cons.1 hm with rfl | hm
    · rw [if_neg (by rw [hq]; decide), if_pos hp]
      have := filter_less l h
      simp only [List.length_cons]; omega
    · have ih := filter_fewer l h ⟨x, hm, hp, hq⟩
      by_cases hqy : q y = true
      · rw [if_pos hqy, if_pos (h y hqy)]; simpa using ih
      · rw [if_neg hqy]
        split
        · simp only [List.length_cons]; omega
        · exact ih
theorem unlisted_set {n i : Nat} {listed : Array Bool} (hi : i < n) (h : listed.getD i true = false) : unlisted n (listed.setIfInBounds i true) < unlisted n listed := by
  refine filter_fewer _ (fun j hj => ?_) ⟨i, List.mem_range.2 hi, by simp [h], ?_⟩
  · by_cases hij : i = j
    · subst hij; simp [h]
    · rw [getD_set_ne true hij] at hj; exact hj
  · have : (listed.setIfInBounds i true).getD i true = true := by
      simp only [Array.getD_eq_getD_getElem?, Array.getElem?_setIfInBounds]
      by_cases hs : i < listed.size <;> simp [hs]
    rw [this]; rfl
end
end Go.Proofs
