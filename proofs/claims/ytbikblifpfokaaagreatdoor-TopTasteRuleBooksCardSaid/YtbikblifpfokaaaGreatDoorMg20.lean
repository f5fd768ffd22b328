import Derived.Test.YtbikblifpfokaaaGreatDoorMg11
import Derived.Test.YtbikblifpfokaaaGreatDoorMg4
import Derived.Test.YtbikblifpfokaaaGreatDoorMg18
import Derived.Test.YtbikblifpfokaaaGreatDoorMg16
import Derived.Test.YtbikblifpfokaaaGreatDoorMg19
set_option linter.unusedSimpArgs false
set_option linter.unusedVariables false
namespace Go.Proofs
open Go.RowKit

/-! Whether some text of a list isn't a name: CheckBook's third closure. -/
def nm8 (s : ByteArray) : Bool := nameB s.data.toList
set_option maxRecDepth 100000 in
theorem noName_any (s : ByteArray) (w : World) (hs : s.size ≤ 9223372036854775807) :
    Calls Tryz.prog 81 #[.string s] w fun e w' => e = .returned (.bool (!(nm8 s))) ∧ Below w.heap.size w w' := by
  have hI := Lib.hid fun W => isName_any s W hs
  unfold nm8
  generalize nameB s.data.toList = q at *
  cases q
  all_goals
    go_enter Tryz.func81, Tryz.ntmps81
    go_wp2_with (go_at_call 43; refine (hI.out _).mono ?_; rintro e w1 ⟨rfl, hb⟩)
    go_ret
    exact ⟨rfl, hb⟩
set_option maxRecDepth 100000 in
set_option maxHeartbeats 1000000 in
theorem indexTexts_any (A : Option Addr) (l : List ByteArray) (c : Nat) (w : World) (hl : l.length ≤ 1000) (hat : At 1 Sc w A l) (hs : ∀ s ∈ l, s.size ≤ 9223372036854775807) :
    Calls Tryz.prog 94 #[.slice A l.length c, .func (.func 81) #[] #[]] w fun e w' => (∃ r : Int, e = .returned (.int .i64 r) ∧ decide (0 ≤ r) = l.any fun y => !(nm8 y)) ∧ Below w.heap.size w w' := by
  have hC := Lib.hid fun (y : ByteArray) W (h : y ∈ l) => noName_any y W (hs y h)
  have hat' := Lib.hid hat
  obtain ⟨m, hm⟩ : ∃ n, l.length = n := ⟨_, rfl⟩
  have hm' := Lib.hid hm
  rw [hm] at hl ⊢
  clear hat hs hm
  go_enter Tryz.func94, Tryz.ntmps94
  go_wp2_with fail
  go_loopw [8] (fun i wr => ∃ k : Nat, k ≤ m ∧ i = .int .i64 k ∧ Hid (((l.take k).any fun y => !(nm8 y)) = false) ∧ Below w.heap.size w wr) (fun i _ => m - (intOf i).toNat)
  case atStart => exact ⟨0, Nat.zero_le _, rfl, rfl, Below.refl _ _⟩
  case round =>
    obtain ⟨k, hk, rfl, hno, hbw⟩ := hrel
    by_cases hlt : k < m
    · obtain ⟨y, hy⟩ : ∃ y, l[k]? = some y := ⟨_, List.getElem?_eq_getElem (by rw [hm'.out]; exact hlt)⟩
      obtain ⟨b, o, rfl, hbb, hc⟩ := hat'.out.below hbw k y hy
      have hCy := Lib.hid fun W => hC.out y W (List.mem_of_getElem? hy)
      obtain ⟨q, hq⟩ : ∃ q, (!(nm8 y)) = q := ⟨_, rfl⟩
      have hnext : Hid (((l.take (k + 1)).any fun y => !(nm8 y)) = q) := by
        obtain ⟨hk', he⟩ := List.getElem?_eq_some_iff.1 hy
        unfold Hid
        rw [List.take_succ_eq_append_getElem hk', List.any_append, he, hno.out]
        simpa using hq
      have hall : Hid (q = true → (l.any fun y => !(nm8 y)) = true) := fun h => by
        rw [List.any_eq_true]
        exact ⟨y, List.mem_of_getElem? hy, by rw [hq, h]⟩
      rw [hq] at hCy
      have y0 := hc 0 _ rfl
      simp only [Nat.add_zero, Nat.mul_one] at y0
      have hkI : (k : Int) < (m : Int) := by omega
      clear hc hy hq hno hC
      cases q
      · go_wp2_with (go_at_call 81; refine (hCy.out _).mono ?_; rintro e w1 ⟨rfl, hb⟩; have hbw := via hbw hb)
        go_roundw
        case rel => exact ⟨k + 1, by omega, by go_num, hnext, hbw⟩
        case measure => simp [intOf]; omega
      · have ht := hall.out rfl
        go_wp2_with (go_at_call 81; refine (hCy.out _).mono ?_; rintro e w1 ⟨rfl, hb⟩; have hbw := via hbw hb)
        go_ret
        exact ⟨⟨k, rfl, by rw [ht]; simp⟩, hbw⟩
    · have hkn : k = m := by omega
      subst hkn
      have hno2 := hno.out
      rw [List.take_of_length_le (by rw [hm'.out]; exact Nat.le_refl _)] at hno2
      have hno3 := Lib.hid hno2
      clear hno hno2 hC
      go_wp2
      go_ret
      exact ⟨⟨-1, rfl, by rw [hno3.out]; decide⟩, hbw⟩
set_option maxRecDepth 100000 in
theorem containsTexts_any (A : Option Addr) (l : List ByteArray) (c : Nat) (w : World) (hl : l.length ≤ 1000) (hat : At 1 Sc w A l) (hs : ∀ s ∈ l, s.size ≤ 9223372036854775807) :
    Calls Tryz.prog 80 #[.slice A l.length c, .func (.func 81) #[] #[]] w fun e w' => e = .returned (.bool (l.any fun y => !(nm8 y))) ∧ Below w.heap.size w w' := by
  have hI := indexTexts_any A l c w hl hat hs
  generalize (l.any fun y => !(nm8 y)) = q at *
  generalize l.length = m at *
  clear hat hs
  go_enter Tryz.func80, Tryz.ntmps80
  go_wp2_with (go_at_call 94; refine hI.mono ?_; rintro e w1 ⟨⟨r, rfl, hr⟩, hb⟩)
  go_ret
  exact ⟨rfl, hb⟩
end Go.Proofs

set_option linter.unusedSimpArgs false
set_option linter.unusedVariables false
namespace Go.Proofs
open Go.RowKit

theorem first2_any (b : Nat) (w : World) (h0 : w.cell? ⟨b, 0, none⟩ = some (.int .i64 0)) (h1 : w.cell? ⟨b, 1, none⟩ = some (.int .i64 0)) :
    Calls Tryz.prog 31 #[.slice (some ⟨b, 0, none⟩) 2 2] w fun e w' => e = .returned (.int .i64 0) ∧ w = w' :=
  first_any [0, 0] b w (by simp) (fun j hj => match j, hj with
    | 0, _ => h0
    | 1, _ => h1)
theorem first4_any (b : Nat) (w : World) (h0 : w.cell? ⟨b, 0, none⟩ = some (.int .i64 0)) (h1 : w.cell? ⟨b, 1, none⟩ = some (.int .i64 0)) (h2 : w.cell? ⟨b, 2, none⟩ = some (.int .i64 0)) (h3 : w.cell? ⟨b, 3, none⟩ = some (.int .i64 0)) :
    Calls Tryz.prog 31 #[.slice (some ⟨b, 0, none⟩) 4 4] w fun e w' => e = .returned (.int .i64 0) ∧ w = w' :=
  first_any [0, 0, 0, 0] b w (by simp) (fun j hj => match j, hj with
    | 0, _ => h0
    | 1, _ => h1
    | 2, _ => h2
    | 3, _ => h3)
set_option maxRecDepth 100000 in
set_option maxHeartbeats 1000000 in
/-- A name that is none of a list's has no error. -/
theorem nameErr_ok (A : Option Addr) (n c : Nat) (s : ByteArray) (w : World) (hs : s.size ≤ 9223372036854775807) (hnm : nm8 s = true)
    (hC : ∀ W, Below w.heap.size w W → Calls Tryz.prog 93 #[.slice A n c, .string s] W fun e w' => e = .returned (.bool false) ∧ w' = W) :
    Calls Tryz.prog 77 #[.string s, .slice A n c] w fun e w' => e = .returned (.int .i64 0) ∧ Below w.heap.size w w' := by
  have hI := Lib.hid fun W => isName_any s W hs
  have hC' := Lib.hid hC
  have hU4 := Lib.hid fun W => unless_any true 4 W
  have hU5 := Lib.hid fun W => unless_any true 5 W
  unfold unl at hU4 hU5
  simp only [if_true] at hU4 hU5
  unfold nm8 at hnm
  rw [hnm] at hI
  clear hC hnm
  go_enter Tryz.func77, Tryz.ntmps77
  go_wp2_with (first
    | (go_at_call 43; refine (hI.out _).mono ?_; rintro e w1 ⟨rfl, hb⟩)
    | (go_at_call 93; refine (hC'.out _ ?_).mono ?_; (· go_grown); rintro e w1 ⟨rfl, rfl⟩)
    | (go_at_call 32; (first | refine (hU4.out _).mono ?_ | refine (hU5.out _).mono ?_); rintro e w1 ⟨rfl, rfl⟩)
    | (go_at_call 31; refine (first2_any _ _ (bk2 (bk_new _ _ rfl)).1 (bk2 (bk_new _ _ rfl)).2.1).mono ?_; rintro e w1 ⟨rfl, rfl⟩))
  go_ret
  exact ⟨rfl, via hb (new_below _ _)⟩
end Go.Proofs

set_option linter.unusedSimpArgs false
set_option linter.unusedVariables false
namespace Go.Proofs
open Go.RowKit
attribute [local go_sem] Oper.semAt_some

/-! The least book: what it is. -/
def stC (m : Nat) (cl : List Cl) (i : Nat) : Nat := (setsTo (alC m cl) cl.length).1.getD i 0
def hdStep (st : Nat → Nat) (D : List (Nat × Nat)) (s : Nat) : List (Nat × Nat) := match lkM D (st s) with
  | none => setM D (st s) s
  | some h => if s < h then setM D (st s) s else D
def hdMap (st : Nat → Nat) (l : List Nat) : List (Nat × Nat) := l.foldl (hdStep st) []
theorem hdMap_snoc (st : Nat → Nat) (l : List Nat) (s : Nat) : hdMap st (l ++ [s]) = hdStep st (hdMap st l) s := by unfold hdMap; rw [List.foldl_append]; rfl
def hdC (st : Nat → Nat) (l : List Nat) (n : Nat) : Nat := (lkM (hdMap st l) n).getD 0
def numMap (l : List Nat) : List (Nat × Nat) := (List.range l.length).foldl (fun D i => setM D (l.getD i 0) i) []
theorem numMap_snoc (l : List Nat) (s : Nat) : numMap (l ++ [s]) = setM (numMap l) s l.length := by
  unfold numMap
  rw [List.length_append, show l.length + [s].length = l.length + 1 from rfl, List.range_succ, List.foldl_append]
  simp only [List.foldl_cons, List.foldl_nil]
  have h1 : (l ++ [s]).getD l.length 0 = s := by simp [List.getD]
  rw [h1]
  congr 1
  have : ∀ (k : Nat) (D : List (Nat × Nat)), k ≤ l.length → (List.range k).foldl (fun D i => setM D ((l ++ [s]).getD i 0) i) D = (List.range k).foldl (fun D i => setM D (l.getD i 0) i) D := by
    intro k
    induction k with
    | zero => intro D _; rfl
    | succ k ih =>
      intro D hk
      rw [List.range_succ, List.foldl_append, List.foldl_append, ih D (by omega)]
      simp only [List.foldl_cons, List.foldl_nil]
      congr 1
      simp [List.getD, List.getElem?_append_left (show k < l.length by omega)]
  exact this _ _ (Nat.le_refl _)
def numC (l : List Nat) (n : Nat) : Nat := (lkM (numMap l) n).getD 0
theorem hdMap_lt (st : Nat → Nat) (N : Nat) : ∀ (l : List Nat) (D : List (Nat × Nat)), (∀ n h, lkM D n = some h → h < N) → (∀ s ∈ l, s < N) → ∀ n h, lkM (l.foldl (hdStep st) D) n = some h → h < N
  | [], D, hD, _, n, h, hh => hD n h hh
  | s :: l, D, hD, hl, n, h, hh => by
    rw [List.foldl_cons] at hh
    refine hdMap_lt st N l _ ?_ (fun x hx => hl x (List.mem_cons_of_mem _ hx)) n h hh
    intro n' h' hh'
    have hs := hl s (List.mem_cons_self ..)
    unfold hdStep at hh'
    split at hh'
    · rw [lkM_setM] at hh'
      split at hh'
      · cases hh'; exact hs
      · exact hD _ _ hh'
    · split at hh'
      · rw [lkM_setM] at hh'
        split at hh'
        · cases hh'; exact hs
        · exact hD _ _ hh'
      · exact hD _ _ hh'
theorem hdC_lt {st : Nat → Nat} {N : Nat} {l : List Nat} (hN : 0 < N) (hl : ∀ s ∈ l, s < N) (n : Nat) : hdC st l n < N := by
  unfold hdC
  cases h : lkM (hdMap st l) n with
  | none => exact hN
  | some x => exact hdMap_lt st N l [] (fun n h hh => by cases hh) hl n x h
theorem stC_lt (m : Nat) (cl : List Cl) (i : Nat) (hN : 0 < cl.length) : stC m cl i < cl.length := by
  unfold stC
  have h1 := setsTo_lt (alC m cl) cl.length
  have key : ∀ (al : Nat → Nat → Bool) (n : Nat), ∀ x ∈ (setsTo al n).1, x < n := by
    intro al n
    induction n with
    | zero => intro x hx; cases hx
    | succ n ih =>
      intro x hx
      have h2 := setsTo_lt al n
      unfold setsTo at hx
      split at hx
      · rename_i k hk
        rcases List.mem_append.1 hx with hx | hx
        · exact Nat.lt_succ_of_lt (ih x hx)
        · rw [List.mem_singleton] at hx
          have := (List.findIdx?_eq_some_iff_getElem.1 hk).1
          omega
      · rcases List.mem_append.1 hx with hx | hx
        · exact Nat.lt_succ_of_lt (ih x hx)
        · rw [List.mem_singleton] at hx
          omega
  by_cases hi : i < (setsTo (alC m cl) cl.length).1.length
  · rw [List.getD_eq_getElem?_getD, List.getElem?_eq_getElem hi]
    exact key _ _ _ (List.getElem_mem hi)
  · rw [List.getD_eq_getElem?_getD, List.getElem?_eq_none (by omega)]
    exact hN
/-- The states of the search over classes, and over sets. -/
def d1C (m : Nat) (cl : List Cl) (b : Nat) : List Nat := (bfsB (nxC cl) m b (List.range cl.length).length).map (·.1)
def nxL (m : Nat) (cl : List Cl) (b : Nat) : Nat → Nat → Nat := nxS (nxC cl) (stC m cl) (hdC (stC m cl) (d1C m cl b))
def d2C (m : Nat) (cl : List Cl) (b : Nat) : List Nat := (bfsB (nxL m cl b) m (stC m cl b) (List.range cl.length).length).map (·.1)
/-- A class of the least book. -/
def clL (m : Nat) (cl : List Cl) (b n : Nat) : ByteArray × List Int × List ByteArray :=
  match cl[hdC (stC m cl) (d1C m cl b) n]? with
  | some x => (x.nm, x.nx.map fun (t : Int) => ((numC (d2C m cl b) (stC m cl t.toNat) : Nat) : Int), x.rs)
  | none => default
def LeastGot (mk : List ByteArray) (cl : List Cl) (b : Nat) (e : Ending) (w' : World) : Prop :=
  ∃ mA mc cA cc cl', e = .returned (.tuple #[.agg #[.slice mA mk.length mc, .int .i64 0, .slice cA cl'.length cc], .int .i64 0]) ∧ BkAt w' mA mk cA cl' ∧ cl'.map Cl.key = (d2C mk.length cl b).map (clL mk.length cl b)
set_option maxRecDepth 100000 in
set_option maxHeartbeats 8000000 in
theorem least_any (mA cA : Option Addr) (mk : List ByteArray) (cl : List Cl) (mc cc bg : Nat) (w : World) (hR : RightB mk bg cl) (hat : BkAt w mA mk cA cl)
    (hC : ∀ W, Below w.heap.size w W → Calls Tryz.prog 53 #[.agg #[.slice mA mk.length mc, .int .i64 bg, .slice cA cl.length cc]] W fun e w' => e = .returned (.tuple #[.int .i64 0, .int .i64 0]) ∧ Below W.heap.size W w') :
    Calls Tryz.prog 8 #[.agg #[.slice mA mk.length mc, .int .i64 bg, .slice cA cl.length cc]] w fun e w' => LeastGot mk cl bg e w' ∧ Below w.heap.size w w' := by
  refine (callsIn_wide (n := 6)).1 ?_
  refine callsIn_of_wp_marks Tryz.func8 rfl trivial ?_ rfl
  simp only [Tryz.ntmps8, List.size_toArray, List.length_cons, List.length_nil, Nat.reduceAdd, Nat.reduceSub, Array.replicate_succ, Array.replicate_zero, List.push_toArray, List.append_toArray, List.nil_append, List.cons_append]
  have hO := Lib.hid fun W (hb : Below w.heap.size w W) => open_ok mA cA mk.length mc cl.length cc bg W (fun W2 hb2 => hC W2 (via hb hb2))
  have hS := Lib.hid fun W (hb : Below w.heap.size w W) => sets_any mA cA mk cl mc cc bg W hR (hat.below hb)
  have hN8 := hR.c1
  have hM6 := hR.m1
  have hbgN : bg < cl.length := by have := hR.bg; omega
  obtain ⟨M, hM⟩ : ∃ M, mk.length = M := ⟨_, rfl⟩
  obtain ⟨N, hN⟩ : ∃ N, cl.length = N := ⟨_, rfl⟩
  rw [hM, hN] at hO hS
  rw [hM] at hM6
  rw [hN] at hN8 hbgN
  rw [hM, hN]
  have hR' := Lib.hid hR
  have hat' := Lib.hid hat
  have hM' := Lib.hid hM
  have hN' := Lib.hid hN
  clear hR hat hC hM hN
  have hmk1 : ∀ W, (Instr.makeMap 66 none).run Tryz.prog W = .ok (.map (some W.heap.size)) (W.alloc (.map #[] 0)) := fun W => by kernel_rfl
  gi_wp2_with (first
    | (refine ⟨trivial, ?_⟩
       gi_at_call 23
       refine (callsIn_wide.2 (hO.out _ ?_)).mono ?_
       · go_grown
       rintro e w1 ⟨rfl, hb1⟩
       clear hO
       have A0 : w1.heap[w.heap.size]? = some (.cells #[.slice mA M mc, .int .i64 bg, .slice cA N cc] 25 (0, 0)) := bk_keep hb1 (by (repeat (first | assumption | (refine bk_new _ _ ?_; (simp; done)) | refine bk_drew ?_ | refine bk_alloc ?_ _ | refine bk_set ?_ (by simp <;> omega) _)))
       have A1 : w1.heap[w.heap.size + 1]? = some (.cells #[.slice none 0 0, .int .i64 0, .slice none 0 0] 25 (0, 0)) := bk_keep hb1 (by (repeat (first | assumption | (refine bk_new _ _ ?_; (simp; done)) | refine bk_drew ?_ | refine bk_alloc ?_ _ | refine bk_set ?_ (by simp <;> omega) _)))
       have hw1 : Below w.heap.size w w1 := via (by go_grown) hb1
       have hs1 := hw1.size
       have A2 := bk_new w1 (.cells #[.slice mA M mc, .int .i64 bg, .slice cA N cc] 62 (0, 0)) rfl
       have A2c := bk3 A2)
    | (refine ⟨trivial, ?_⟩
       gi_at_call 24
       refine (callsIn_wide.2 (hS.out _ ?_)).mono ?_
       · go_grown
       rintro e w2 ⟨⟨v2, rfl, hown2⟩, hb2⟩
       have B0 := bk_keep hb2 (bk_alloc A0 _)
       have B1 := bk_keep hb2 (bk_alloc A1 _)
       have B2 := bk_keep hb2 A2
       have hw2 : Below w.heap.size w w2 := via (by go_grown) hb2
       have hs2 := hw2.size
       obtain ⟨A6, c6, rfl⟩ := own_slice hown2
       have D0 := bk3 (bk_alloc (bk_alloc (bk_alloc B0 (.cells #[.slice A6 N c6] 26)) (.map #[] 0)) (.cells #[.map (some (w2.heap.size + 1))] 66))
       have D2 := bk3 (bk_alloc (bk_alloc (bk_alloc B2 (.cells #[.slice A6 N c6] 26)) (.map #[] 0)) (.cells #[.map (some (w2.heap.size + 1))] 66)))
    | (refine ⟨trivial, ?_⟩
       gi_at_call 25
       refine (callsIn_wide.2 (from_any _ _ _ _ _ _ _ _ _)).mono ?_
       rintro e w3 ⟨rfl, rfl⟩))
  refine wpIn_world ?_
  intro W hW_W
  have hb_W : Below w.heap.size w W := by rw [hW_W]; unfold BKo; go_grown
  have hsW : W.heap.size = w2.heap.size + 7 := by rw [hW_W]; simp
  have h12 : w1.heap.size < w2.heap.size := bk_size B2
  have h01 : w.heap.size + 1 < w1.heap.size := bk_size A1
  have hal : ∀ {k : Nat} {ob : Obj}, w2.heap[k]? = some ob → W.heap[k]? = some ob := fun {k ob} h => by
    rw [hW_W]
    have h7 : ∀ {x : World} {o : Obj}, x.heap[k]? = some ob → (x.alloc o).heap[k]? = some ob := fun {x o} h => (Below.heap_alloc x o k (Array.getElem?_eq_some_iff.1 h).1).trans h
    exact h7 (h7 (h7 (h7 (h7 (h7 (h7 h))))))
  have E0 := hal B0
  have E1 := hal B1
  have E2 := hal B2
  have E6 : W.heap[w2.heap.size]? = some (.cells #[.slice A6 N c6] 26 (0, 0)) := by rw [hW_W]; (repeat (first | assumption | (refine bk_new _ _ ?_; (simp; done)) | refine bk_drew ?_ | refine bk_alloc ?_ _ | refine bk_set ?_ (by simp <;> omega) _))
  have EM : MapAt encI encI W (w2.heap.size + 1) ([] : List (Nat × Nat)) := ⟨#[], 0, by rw [hW_W]; (repeat (first | assumption | (refine bk_new _ _ ?_; (simp; done)) | refine bk_drew ?_ | refine bk_alloc ?_ _ | refine bk_set ?_ (by simp <;> omega) _)), rfl⟩
  have E7 : W.heap[w2.heap.size + 1 + 1]? = some (.cells #[.map (some (w2.heap.size + 1))] 66 (0, 0)) := by rw [hW_W]; (repeat (first | assumption | (refine bk_new _ _ ?_; (simp; done)) | refine bk_drew ?_ | refine bk_alloc ?_ _ | refine bk_set ?_ (by simp <;> omega) _))
  have P1 : W.heap[w2.heap.size + 1 + 1 + 1 + 1]? = some (.cells #[.int .i64 bg] 3 (0, 0)) := by rw [hW_W]; (repeat (first | assumption | (refine bk_new _ _ ?_; (simp; done)) | refine bk_drew ?_ | refine bk_alloc ?_ _ | refine bk_set ?_ (by simp <;> omega) _))
  have P2 : W.heap[w2.heap.size + 1 + 1 + 1 + 1 + 1]? = some (.cells #[.int .i64 M] 3 (0, 0)) := by rw [hW_W]; (repeat (first | assumption | (refine bk_new _ _ ?_; (simp; done)) | refine bk_drew ?_ | refine bk_alloc ?_ _ | refine bk_set ?_ (by simp <;> omega) _))
  have P3 : W.heap[w2.heap.size + 1 + 1 + 1 + 1 + 2]? = some (.cells #[.func (.func 28) #[.agg #[.slice mA M mc, .int .i64 bg, .slice cA N cc]] #[]] 73 (0, 0)) := by rw [hW_W]; (repeat (first | assumption | (refine bk_new _ _ ?_; (simp; done)) | refine bk_drew ?_ | refine bk_alloc ?_ _ | refine bk_set ?_ (by simp <;> omega) _))
  obtain ⟨st, hst⟩ : ∃ st, stC mk.length cl = st := ⟨_, rfl⟩
  have hst' := Lib.hid hst
  obtain ⟨SL, hSL⟩ : ∃ SL, (setsTo (alC mk.length cl) cl.length).1 = SL := ⟨_, rfl⟩
  have hSLl : SL.length = N := by rw [← hSL, ← hN'.out]; exact (setsTo_lt _ _).1
  have hSLg : ∀ i, i < N → SL[i]? = some (st i) := fun i hi => by
    rw [← hst, List.getElem?_eq_getElem (by omega)]
    unfold stC
    rw [hSL, List.getD_eq_getElem?_getD, List.getElem?_eq_getElem (by omega)]
    rfl
  have hstN : ∀ i, st i < N := fun i => by
    rw [← hst, ← hN'.out]
    exact stC_lt _ _ _ (by rw [hN'.out]; omega)
  rw [hM'.out, hN'.out] at hSL
  have hSat : At 1 Nc W A6 SL := by
    rw [hSL] at hown2
    have h1 : w2.ownsRow w1.heap.size 3 1 (.slice A6 SL.length c6) SL.length (SL.flatMap Nc) := by
      rw [hSLl]
      exact owns_base hown2 (by simp)
    obtain ⟨A', c', e', h2⟩ := at_of_owns (cs := Nc) (sz := 1) (fun _ => rfl) h1
    injection e' with e1 _ _
    rw [← e1] at h2
    have hb2W : Below w2.heap.size w2 W := by rw [hW_W]; unfold BKo; go_grown
    exact h2.below hb2W
  clear hW_W A0 A1 A2 A2c B0 B1 B2 D0 D2
  have hU : ∀ s ∈ List.range cl.length, ∀ a, a < M → nxC cl s a ∈ List.range cl.length := fun s hs a ha => by
    rw [List.mem_range] at hs ⊢
    exact nxC_lt hR'.out hs (by rw [hM'.out]; exact ha)
  have hbU : bg ∈ List.range cl.length := List.mem_range.2 (by rw [hN'.out]; exact hbgN)
  have hstops := search_stops 5 (nxC cl) M bg (List.range cl.length) hbU hU (by simp; have := hN'.out; omega) (by omega) (w2.heap.size + 1 + 1 + 1 + 1) (w2.heap.size + 1 + 1 + 1 + 1 + 1) (w2.heap.size + 1 + 1 + 1 + 1 + 2) 28 #[.agg #[.slice mA M mc, .int .i64 bg, .slice cA N cc]] #[] (· = w2.heap.size + 1) W (bk1 P1).1 (bk1 P2).1 (bk1 P3).1 (by omega) (by omega) (by omega) (by rintro k rfl; omega) (enters_of Tryz.func28 (by kernel_rfl) rfl) (fun s hs a ha W' hl => by
    have hk : ∀ j, j < w.heap.size → W'.heap[j]? = w.heap[j]? := fun j hj => (hl.same j (by omega) (by omega)).trans (hb_W.block j hj)
    rw [List.mem_range] at hs
    have := next_any mA cA mk cl mc cc bg s a W' hR'.out (hat'.out.kept hk) hs (by rw [hM'.out]; exact ha)
    rw [hM'.out, hN'.out] at this
    exact this)
  refine wp_rangeW rfl (by omega) (gf := 58) (lb := #[.pointer (some ⟨w2.heap.size + 1 + 1 + 1 + 1, 0, none⟩), .pointer (some ⟨w2.heap.size + 1 + 1 + 1 + 1 + 1, 0, none⟩), .pointer (some ⟨w2.heap.size + 1 + 1 + 1 + 1 + 2, 0, none⟩)]) rfl trivial (enters_of Tryz.func58 (by kernel_rfl) rfl) hstops (by rintro k rfl; omega) (fun _ => rfl)
    (fun pre T W' => Below w.heap.size w W' ∧ Lie (· = w2.heap.size + 1) W W' ∧ MapAt encI encI W' (w2.heap.size + 1) (hdMap st (pre.map (·.st))))
    (fun c pre T W' => False)
    (fun pre T x a W' => ∃ Bx, W.heap.size ≤ Bx ∧ (Below w.heap.size w W' ∧ Lie (· = w2.heap.size + 1) W W' ∧ MapAt encI encI W' (w2.heap.size + 1) (hdMap st (pre.map (·.st)))) ∧ W'.heap[Bx]? = some (.cells #[.int .i64 x.st, .slice x.A x.wd.length x.c] 70 (0, 0)) ∧ x.st < N ∧
      a = { tmps := #[.agg #[.slice mA M mc, .int .i64 bg, .slice cA N cc], .pointer (some ⟨w.heap.size, 0, none⟩), .pointer (some ⟨w.heap.size + 1, 0, none⟩), .int .i64 0, .pointer (some ⟨w1.heap.size, 0, none⟩), .int .i64 0, .pointer (some ⟨w2.heap.size, 0, none⟩), .pointer (some ⟨w2.heap.size + 1 + 1, 0, none⟩), .pointer (some ⟨Bx, 0, none⟩), undef, undef, undef, undef, undef, undef, undef, undef, undef, undef, undef, undef, undef, .tuple #[.agg #[.slice mA M mc, .int .i64 bg, .slice cA N cc], .int .i64 0], .agg #[.slice mA M mc, .int .i64 bg, .slice cA N cc], .tuple #[.agg #[.slice mA M mc, .int .i64 bg, .slice cA N cc], .int .i64 0], .agg #[.slice mA M mc, .int .i64 bg, .slice cA N cc], .int .i64 0, .int .i64 0, .bool false, undef, undef, .agg #[.slice mA M mc, .int .i64 bg, .slice cA N cc], .slice A6 N c6, .map (some (w2.heap.size + 1)), .agg #[.slice mA M mc, .int .i64 bg, .slice cA N cc], .pointer (some ⟨w.heap.size, 1, none⟩), .int .i64 bg, .func (.func 58) #[] #[.pointer (some ⟨w2.heap.size + 1 + 1 + 1 + 1, 0, none⟩), .pointer (some ⟨w2.heap.size + 1 + 1 + 1 + 1 + 1, 0, none⟩), .pointer (some ⟨w2.heap.size + 1 + 1 + 1 + 1 + 2, 0, none⟩)], .agg #[.int .i64 x.st, .slice x.A x.wd.length x.c], undef, undef, undef, undef, undef, undef, undef, undef, undef, undef, undef, undef, undef, undef, undef, undef, undef, undef, undef, undef, undef, undef, undef, undef, undef, undef, undef, undef, undef, undef, undef, undef, undef, undef, undef, undef, undef, undef, undef, undef, undef, undef, undef, undef, undef, undef, undef, undef, undef, undef, undef, undef, undef, undef, undef, undef, undef, undef, undef, undef, undef, undef, undef, undef, undef, undef, undef, undef, undef, undef, undef, undef, undef, undef, undef, undef, undef, undef, undef, undef, undef, undef, undef, undef, undef, undef, undef, undef, undef, undef, undef, undef, undef, undef, undef], defers := [] })
    ?hI ?hIx ?hAx ?h0 ?assign ?body ?done ?stop
  case hI =>
    rintro s T A W' row ⟨h1, h2, h3⟩ hg hr
    refine ⟨h1.grown hg h1.size (fun r e => by have := (hr r e).1; omega), ⟨Nat.le_trans h2.size hg.size, fun k hk hm => (hg.block k (Nat.lt_of_lt_of_le hk h2.size) (fun e => by have := (hr _ e.symm).1; omega)).trans (h2.same k hk hm)⟩, h3.kept (hg.block _ h3.lt (fun e => by have := (hr _ e.symm).1; omega))⟩
  case hIx =>
    rintro c s T A W' row h
    exact h.elim
  case hAx =>
    rintro pre T x a W' l o o' hl hT hgv ho hc ⟨Bx, hBx, ⟨h1, h2, h3⟩, h5, h6⟩
    have hg := grownBy_putObj' W' l o'
    refine ⟨Bx, hBx, ⟨h1.grown hg h1.size (fun r e => by cases e; omega), ⟨by rw [World.putObj_size]; exact h2.size, fun k hk hm => (World.putObj_heap_other (by omega)).trans (h2.same k hk hm)⟩, h3.kept (World.putObj_heap_other (by omega))⟩, ?_, h6⟩
    rw [World.putObj_heap_other]
    · exact h5
    · rintro rfl
      rw [h5] at ho
      cases ho
      cases hc
  case h0 => exact ⟨hb_W, Lie.refl _ _, EM⟩
  case assign =>
    rintro l pre T x W' ⟨h1, h2, h3⟩ hT hlen ⟨hpre, hxat⟩ hgv
    have hxU := key_mem hbU hU hpre
    rw [List.mem_range, hN'.out] at hxU
    have hb' := new_below W' (.cells #[.int .i64 x.st, .slice x.A x.wd.length x.c] 70)
    unfold encF
    gi_wp2
    exact ⟨.of_below _ hb', W'.heap.size, h2.size, ⟨via h1 hb', h2.trans (.of_below _ hb'), h3.below hb'⟩, bk_new _ _ rfl, hxU, rfl⟩
  case body =>
    rintro l pre T x a W' ⟨Bx, hBx, ⟨h1, h2, h3⟩, hXb, hxN, rfl⟩ hT hlen
    obtain ⟨s, hs⟩ : ∃ s, x.st = s := ⟨_, rfl⟩
    have hs' := Lib.hid hs
    obtain ⟨XA, hXA⟩ : ∃ A, x.A = A := ⟨_, rfl⟩
    obtain ⟨XL, hXL⟩ : ∃ A, x.wd.length = A := ⟨_, rfl⟩
    obtain ⟨XC, hXC⟩ : ∃ A, x.c = A := ⟨_, rfl⟩
    rw [hs] at hxN
    rw [hs, hXA, hXL, hXC] at hXb ⊢
    have hX := bk2 hXb
    have hXs := bk_size hXb
    have F6 := bk1 (h2.obj (by omega) E6)
    have F7 := bk1 (h2.obj (by omega) E7)
    have hF6s := bk_size (h2.obj (M := (· = w2.heap.size + 1)) (by omega) E6)
    obtain ⟨b6, o6, rfl, hb6, hc6⟩ := hSat s _ (hSLg s hxN)
    have hb6m : b6 ≠ w2.heap.size + 1 := by
      rintro rfl
      have := hc6 0 _ rfl
      obtain ⟨es, ck, hm, -⟩ := EM
      unfold World.cell? at this
      simp only [hm] at this
      cases this
    have c0 := h2.cell hb6m (hc6 0 _ rfl)
    simp only [Nat.add_zero, Nat.mul_one] at c0
    have hb6r : b6 < W'.heap.size := World.block_lt_of_cell? _ _ c0
    obtain ⟨t, ht⟩ : ∃ t, st s = t := ⟨_, rfl⟩
    rw [ht] at c0
    have hsI : (s : Int) < (N : Int) := by omega
    obtain ⟨D, hD⟩ : ∃ D, hdMap st (pre.map (·.st)) = D := ⟨_, rfl⟩
    have hnext : Hid (hdMap st ((pre ++ [x]).map (·.st)) = hdStep st D s) := by
      unfold Hid
      rw [List.map_append, ← hD, ← hs]
      exact hdMap_snoc _ _ _
    rw [hD] at h3
    have hlook := h3.look (t := 66) key3 Tryz.underlying66 (z := .int .i64 0) (by kernel_rfl) t true
    obtain ⟨ob, hup, hmp⟩ := h3.update (t := 66) key3 Tryz.underlying66 t s
    have hup' : (Instr.mapUpdate 66 (.map (some (w2.heap.size + 1))) (.int .i64 t) (.int .i64 s)).run Tryz.prog W' = .ok () (W'.putObj (w2.heap.size + 1) ob) := hup
    have hmp' := Lib.hid hmp
    have h3' := Lib.hid h3
    have hlw : ∀ r, T r → T r ∨ W'.heap.size ≤ r := fun r h => .inl h
    have hput : Below w.heap.size w (W'.putObj (w2.heap.size + 1) ob) := h1.grown (grownBy_putObj' W' _ ob) h1.size (fun r e => by cases e; omega)
    have hLp : Lie (· = w2.heap.size + 1) W (W'.putObj (w2.heap.size + 1) ob) := h2.trans (Lie.putObj _ _ _ rfl)
    have hst2 : Hid (hdStep st D s = match lkM D t with | none => setM D t s | some h => if s < h then setM D t s else D) := by
      unfold Hid hdStep
      rw [ht]
    clear hmp hup h3 hs hXA hXL hXC ht hD hc6
    cases hlk : lkM D t with
    | none =>
      rw [hlk] at hlook hst2
      have hlook' : (Instr.lookup 66 (.map (some (w2.heap.size + 1))) (.int .i64 t) true).run Tryz.prog W' = .ok (.tuple #[.int .i64 0, .bool false]) W' := hlook
      clear hlook
      gi_wp2
      refine ⟨T, hlw, fun r hr => by rw [World.putObj_size]; exact (hT r hr).2, Lie.putObj _ _ _ (.inl rfl), hput, hLp, ?_⟩
      rw [hnext.out, hst2.out]
      exact hmp'.out
    | some h =>
      rw [hlk] at hlook hst2
      have hlook' : (Instr.lookup 66 (.map (some (w2.heap.size + 1))) (.int .i64 t) true).run Tryz.prog W' = .ok (.tuple #[.int .i64 h, .bool true]) W' := hlook
      clear hlook
      by_cases hlt : s < h
      · have hltI : (s : Int) < (h : Int) := by omega
        dsimp only at hst2
        rw [if_pos hlt] at hst2
        gi_wp2
        refine ⟨T, hlw, fun r hr => by rw [World.putObj_size]; exact (hT r hr).2, Lie.putObj _ _ _ (.inl rfl), hput, hLp, ?_⟩
        rw [hnext.out, hst2.out]
        exact hmp'.out
      · have hltI : ¬ (s : Int) < (h : Int) := by omega
        dsimp only at hst2
        rw [if_neg hlt] at hst2
        gi_wp2
        refine ⟨T, hlw, fun r hr => (hT r hr).2, Lie.refl _ _, h1, h2, ?_⟩
        rw [hnext.out, hst2.out]
        exact h3'.out
  case stop =>
    rintro D c pre T W' hS h
    exact h.elim
  case done =>
    rintro D xs T W' hS ⟨h1, h2, h3⟩ rfl hK
    have hxs : xs.map (·.st) = d1C mk.length cl bg := by
      unfold d1C
      rw [hM'.out, ← hS, List.map_map]
      rfl
    rw [hxs] at h3
    have G0 := h2.obj (by omega) E0
    have G1 := h2.obj (by omega) E1
    have G2 := h2.obj (by omega) E2
    have G6 := h2.obj (by omega) E6
    have G7 := h2.obj (by omega) E7
    have hb6m : ∀ a, A6 = some a → a.block ≠ w2.heap.size + 1 := by
      rintro a rfl e
      obtain ⟨b6, o6, hA, hb6, hc6⟩ := hSat 0 _ (hSLg 0 (by omega))
      cases hA
      have := hc6 0 _ rfl
      obtain ⟨es, ck, hm, -⟩ := EM
      unfold World.cell? at this
      dsimp only at e
      subst e
      simp only [hm] at this
      cases this
    have hSat2 : At 1 Nc W' A6 SL := hSat.kept fun a ha => by
      obtain ⟨b6, o6, hA, hb6, -⟩ := hSat 0 _ (hSLg 0 (by omega))
      rw [ha] at hA
      cases hA
      exact h2.same _ hb6 (hb6m _ ha)
    have hsW' := h2.size
    have hKs := bk_size hK
    have hmk2 := hmk1 W'
    gi_wp2_with fail
    refine wpIn_world ?_
    intro V hV
    have hbV : Below W'.heap.size W' V := by rw [hV]; go_grown
    have hVs : V.heap.size = W'.heap.size + 3 := by rw [hV]; simp
    have HM2 : MapAt encI encI V W'.heap.size ([] : List (Nat × Nat)) := ⟨#[], 0, by rw [hV]; (repeat (first | assumption | (refine bk_new _ _ ?_; (simp; done)) | refine bk_drew ?_ | refine bk_alloc ?_ _ | refine bk_set ?_ (by simp <;> omega) _)), rfl⟩
    have H12 : V.heap[W'.heap.size + 1]? = some (.cells #[.map (some W'.heap.size)] 66 (0, 0)) := by rw [hV]; (repeat (first | assumption | (refine bk_new _ _ ?_; (simp; done)) | refine bk_drew ?_ | refine bk_alloc ?_ _ | refine bk_set ?_ (by simp <;> omega) _))
    have H13 : V.heap[W'.heap.size + 1 + 1]? = some (.cells #[.slice none 0 0] 26 (0, 0)) := by rw [hV]; (repeat (first | assumption | (refine bk_new _ _ ?_; (simp; done)) | refine bk_drew ?_ | refine bk_alloc ?_ _ | refine bk_set ?_ (by simp <;> omega) _))
    clear hV
    have hw_V : Below w.heap.size w V := via h1 hbV
    have H0 := bk_keep hbV G0
    have H1 := bk_keep hbV G1
    have H2 := bk_keep hbV G2
    have H6 := bk_keep hbV G6
    have H7 := bk_keep hbV G7
    have HK := bk_keep hbV hK
    have H3 := h3.below hbV
    have hSat3 := hSat2.below hbV
    have hC0 := bk3 H0
    have hC6 := bk1 H6
    have hC0s := bk_size H0
    have hC6s := bk_size H6
    obtain ⟨b6, o6, hA6, hb6, hc6⟩ := hSat3 bg _ (hSLg bg hbgN)
    subst hA6
    have s6 := hc6 0 _ rfl
    simp only [Nat.add_zero, Nat.mul_one] at s6
    have hbgI : (bg : Int) < (N : Int) := by omega
    have hmf : ∀ (fn : Fn) (first cap : Array Value) (w : World), (Instr.makeFunc fn first cap).run Tryz.prog w = .ok (.func fn first cap) w := fun _ _ _ _ => rfl
    have hVs' := Lib.hid hVs
    have hsW2 := Lib.hid hsW
    clear hVs hsW
    refine wpIn_wide.2 ?_
    refine region_in w 9 (by kernel_rfl) (by kernel_rfl) hw_V ?_
    intro hgc hbx
    simp only [List.take_succ_cons, List.take_zero, List.drop_succ_cons, List.drop_zero]
    repeat (go_big_quiet_step (fail))
    refine wpQuiet_nil ?_
    intro wb hb_wb hw_wb hs_wb
    clear hgc hbx
    go_wp2_with (go_at_call 26; refine (search26_any _ _ _ _ _ _).mono ?_; rintro e w5 ⟨rfl, rfl⟩)
    apply wpIn_block
    refine wpIn_world ?_
    intro U hW_U
    have hVU : Below V.heap.size V U := by rw [hW_U]; go_grown
    have hUs : U.heap.size = wb.heap.size + 3 := by rw [hW_U]; simp
    have Q1 : U.heap[wb.heap.size]? = some (.cells #[.int .i64 (st bg)] 3 (0, 0)) := by rw [hW_U]; (repeat (first | assumption | (refine bk_new _ _ ?_; (simp; done)) | refine bk_drew ?_ | refine bk_alloc ?_ _ | refine bk_set ?_ (by simp <;> omega) _))
    have Q2 : U.heap[wb.heap.size + 1]? = some (.cells #[.int .i64 M] 3 (0, 0)) := by rw [hW_U]; (repeat (first | assumption | (refine bk_new _ _ ?_; (simp; done)) | refine bk_drew ?_ | refine bk_alloc ?_ _ | refine bk_set ?_ (by simp <;> omega) _))
    have Q3 : U.heap[wb.heap.size + 2]? = some (.cells #[.func (.func 27) #[] #[.pointer (some ⟨w2.heap.size, 0, none⟩), .pointer (some ⟨w1.heap.size, 0, none⟩), .pointer (some ⟨w2.heap.size + 1 + 1, 0, none⟩)]] 73 (0, 0)) := by rw [hW_U]; (repeat (first | assumption | (refine bk_new _ _ ?_; (simp; done)) | refine bk_drew ?_ | refine bk_alloc ?_ _ | refine bk_set ?_ (by simp <;> omega) _))
    clear hW_U
    have hw_U : Below w.heap.size w U := via hw_V hVU
    have J0 := bk_keep hVU H0
    have J1 := bk_keep hVU H1
    have J2 := bk_keep hVU H2
    have J6 := bk_keep hVU H6
    have J7 := bk_keep hVU H7
    have JK := bk_keep hVU HK
    have J3 := H3.below hVU
    have JM2 := HM2.below hVU
    have J12 := bk_keep hVU H12
    have J13 := bk_keep hVU H13
    have JSat := hSat3.below hVU
    have hVsz := hVs'.out
    have hwW' := h1.size
    have hWsz := hsW2.out
    obtain ⟨hdf, hhdf⟩ : ∃ f, hdC st (d1C mk.length cl bg) = f := ⟨_, rfl⟩
    have hd1N : ∀ s ∈ d1C mk.length cl bg, s < N := fun s hs => by
      unfold d1C at hs
      rw [hM'.out] at hs
      obtain ⟨p, hp, rfl⟩ := List.mem_map.1 hs
      have := bfs_mem hbU hU hp
      rw [List.mem_range, hN'.out] at this
      exact this
    have hhd : ∀ n, hdf n < N := fun n => by rw [← hhdf]; exact hdC_lt (by omega) hd1N n
    obtain ⟨nx2, hnx2⟩ : ∃ f, nxL mk.length cl bg = f := ⟨_, rfl⟩
    have hnx2' : ∀ n a, nx2 n a = st (nxC cl (hdf n) a) := fun n a => by
      rw [← hnx2, ← hhdf, ← hst'.out]
      rfl
    have hU2 : ∀ s ∈ List.range cl.length, ∀ a, a < M → nx2 s a ∈ List.range cl.length := fun s hs a ha => by
      rw [List.mem_range, hnx2', hN'.out]
      exact hstN _
    have hbU2 : st bg ∈ List.range cl.length := List.mem_range.2 (by rw [hN'.out]; exact hstN _)
    have hwbV := hb_wb.size
    have hstops2 := search_stops 5 nx2 M (st bg) (List.range cl.length) hbU2 hU2 (by simp; have := hN'.out; omega) (by omega) wb.heap.size (wb.heap.size + 1) (wb.heap.size + 2) 27 #[] #[.pointer (some ⟨w2.heap.size, 0, none⟩), .pointer (some ⟨w1.heap.size, 0, none⟩), .pointer (some ⟨w2.heap.size + 1 + 1, 0, none⟩)] (fun k => k = W'.heap.size ∨ k = W'.heap.size + 1 + 1) U (bk1 Q1).1 (bk1 Q2).1 (bk1 Q3).1 (by omega) (by omega) (by omega) (by intro k hk; omega) (enters_of Tryz.func27 (by kernel_rfl) rfl) (fun s hs a ha X hl => by
      have hk : ∀ j, j < w.heap.size → X.heap[j]? = w.heap[j]? := fun j hj => (hl.same j (by have := hw_U.size; omega) (by omega)).trans (hw_U.block j hj)
      have hNl : nxC cl (hdf s) a < N := by
        have := nxC_lt hR'.out (s := hdf s) (a := a) (by rw [hN'.out]; exact hhd s) (by rw [hM'.out]; exact ha)
        rwa [hN'.out] at this
      have := least1_any mA cA mk cl mc cc bg w2.heap.size w1.heap.size (w2.heap.size + 1 + 1) (w2.heap.size + 1) (some ⟨b6, o6, none⟩) c6 SL (hdMap st (d1C mk.length cl bg)) s a (hdf s) (nxC cl (hdf s) a) (nx2 s a) X hR'.out (hat'.out.kept hk) (by rw [hSLl]; exact hl.obj (by omega) J6) (JSat.kept fun a ha => by
        cases ha
        refine hl.same _ (Nat.lt_of_lt_of_le hb6 hVU.size) ?_
        have : b6 < W.heap.size := by
          obtain ⟨b7, o7, hA7, hb7, -⟩ := hSat bg _ (hSLg bg hbgN)
          cases hA7
          exact hb7
        rintro (e | e) <;> (dsimp only at e; omega)) (by rw [hM'.out, hN'.out]; unfold BKo; exact hl.obj (by omega) J2) (hl.obj (by omega) J7) (J3.kept (hl.same _ J3.lt (by rintro (e | e) <;> omega))) (by rw [← hhdf]; rfl) (by rw [hN'.out]; exact hhd s) (by rw [hM'.out]; exact ha) rfl (by rw [hnx2']; exact hSLg _ hNl)
      exact this)
    refine wp_rangeW rfl (by omega) (gf := 58) (lb := #[.pointer (some ⟨wb.heap.size, 0, none⟩), .pointer (some ⟨wb.heap.size + 1, 0, none⟩), .pointer (some ⟨wb.heap.size + 2, 0, none⟩)]) rfl trivial (enters_of Tryz.func58 (by kernel_rfl) rfl) hstops2 (by intro k hk; omega) (fun _ => rfl)
      (fun pre T X => Below w.heap.size w X ∧ Lie (fun k => k = W'.heap.size ∨ k = W'.heap.size + 1 + 1) U X ∧ MapAt encI encI X W'.heap.size (numMap (pre.map (·.st))) ∧ ∃ v13, X.heap[W'.heap.size + 1 + 1]? = some (.cells #[v13] 26 (0, 0)) ∧ X.ownsRow U.heap.size 3 1 v13 pre.length ((pre.map (·.st)).flatMap Nc) ∧ ∀ g, v13.ownBlock = some g → T g)
      (fun c pre T W' => False)
      (fun pre T x a X => ∃ Bx, U.heap.size ≤ Bx ∧ (Below w.heap.size w X ∧ Lie (fun k => k = W'.heap.size ∨ k = W'.heap.size + 1 + 1) U X ∧ MapAt encI encI X W'.heap.size (numMap (pre.map (·.st))) ∧ ∃ v13, X.heap[W'.heap.size + 1 + 1]? = some (.cells #[v13] 26 (0, 0)) ∧ X.ownsRow U.heap.size 3 1 v13 pre.length ((pre.map (·.st)).flatMap Nc) ∧ ∀ g, v13.ownBlock = some g → T g) ∧ X.heap[Bx]? = some (.cells #[.int .i64 x.st, .slice x.A x.wd.length x.c] 70 (0, 0)) ∧
        a = { tmps := #[.agg #[.slice mA M mc, .int .i64 bg, .slice cA N cc], .pointer (some ⟨w.heap.size, 0, none⟩), .pointer (some ⟨w.heap.size + 1, 0, none⟩), .int .i64 0, .pointer (some ⟨w1.heap.size, 0, none⟩), .int .i64 0, .pointer (some ⟨w2.heap.size, 0, none⟩), .pointer (some ⟨w2.heap.size + 1 + 1, 0, none⟩), undef, undef, undef, undef, .pointer (some ⟨W'.heap.size + 1, 0, none⟩), .pointer (some ⟨W'.heap.size + 1 + 1, 0, none⟩), .pointer (some ⟨Bx, 0, none⟩), undef, undef, undef, undef, undef, undef, undef, .tuple #[.agg #[.slice mA M mc, .int .i64 bg, .slice cA N cc], .int .i64 0], .agg #[.slice mA M mc, .int .i64 bg, .slice cA N cc], .tuple #[.agg #[.slice mA M mc, .int .i64 bg, .slice cA N cc], .int .i64 0], .agg #[.slice mA M mc, .int .i64 bg, .slice cA N cc], .int .i64 0, .int .i64 0, .bool false, undef, undef, .agg #[.slice mA M mc, .int .i64 bg, .slice cA N cc], .slice (some ⟨b6, o6, none⟩) N c6, .map (some (w2.heap.size + 1)), .agg #[.slice mA M mc, .int .i64 bg, .slice cA N cc], .pointer (some ⟨w.heap.size, 1, none⟩), .int .i64 bg, .func (.func 58) #[] #[.pointer (some ⟨w2.heap.size + 1 + 1 + 1 + 1, 0, none⟩), .pointer (some ⟨w2.heap.size + 1 + 1 + 1 + 1 + 1, 0, none⟩), .pointer (some ⟨w2.heap.size + 1 + 1 + 1 + 1 + 2, 0, none⟩)], undef, undef, undef, undef, undef, undef, undef, undef, undef, undef, undef, undef, undef, undef, undef, undef, undef, undef, undef, undef, undef, undef, undef, undef, .map (some W'.heap.size), .slice (some ⟨b6, o6, none⟩) N c6, .pointer (some ⟨w.heap.size, 1, none⟩), .int .i64 bg, .pointer (some ⟨b6, o6 + bg, none⟩), .int .i64 (st bg), .pointer (some ⟨w.heap.size, 0, none⟩), .slice mA M mc, .int .i64 M, .func (.func 27) #[] #[.pointer (some ⟨w2.heap.size, 0, none⟩), .pointer (some ⟨w1.heap.size, 0, none⟩), .pointer (some ⟨w2.heap.size + 1 + 1, 0, none⟩)], .func (.func 58) #[] #[.pointer (some ⟨wb.heap.size, 0, none⟩), .pointer (some ⟨wb.heap.size + 1, 0, none⟩), .pointer (some ⟨wb.heap.size + 2, 0, none⟩)], .agg #[.int .i64 x.st, .slice x.A x.wd.length x.c], undef, undef, undef, undef, undef, undef, undef, undef, undef, undef, undef, undef, undef, undef, undef, undef, undef, undef, undef, undef, undef, undef, undef, undef, undef, undef, undef, undef, undef, undef, undef, undef, undef, undef, undef, undef, undef, undef, undef, undef, undef, undef, undef, undef, undef, undef, undef, undef, undef, undef, undef, undef, undef, undef, undef, undef, undef, undef, undef, undef], defers := [] })
      ?hI2 ?hIx2 ?hAx2 ?h02 ?assign2 ?body2 ?done2 ?stop2
    case hI2 =>
      rintro s T A X row ⟨h1, h2, h3, v13, h4, h5, h6⟩ hg hr
      refine ⟨h1.grown hg h1.size (fun r e => by have := (hr r e).1; omega), ⟨Nat.le_trans h2.size hg.size, fun k hk hm => (hg.block k (Nat.lt_of_lt_of_le hk h2.size) (fun e => by have := (hr _ e.symm).1; omega)).trans (h2.same k hk hm)⟩, h3.kept (hg.block _ h3.lt (fun e => by have := (hr _ e.symm).1; omega)), v13, ?_, owns_kept h5 fun g hg' => hg.block g (h5.lt g hg').2 (fun e => (hr _ e.symm).2.1 (h6 g hg')), h6⟩
      rw [hg.block _ (bk_size h4) (fun e => by have := (hr _ e.symm).1; omega)]
      exact h4
    case hIx2 =>
      rintro c s T A X row h
      exact h.elim
    case hAx2 =>
      rintro pre T x a X l o o' hl hT hgv ho hc ⟨Bx, hBx, ⟨h1, h2, h3, v13, h4, h5, h6⟩, h7, h8⟩
      have hg := grownBy_putObj' X l o'
      refine ⟨Bx, hBx, ⟨h1.grown hg h1.size (fun r e => by cases e; omega), ⟨by rw [World.putObj_size]; exact h2.size, fun k hk hm => (World.putObj_heap_other (by omega)).trans (h2.same k hk hm)⟩, h3.kept (World.putObj_heap_other (by omega)), v13, (World.putObj_heap_other (by omega)).trans h4, owns_kept h5 fun g hg' => World.putObj_heap_other (fun e => hT (e ▸ h6 g hg')), h6⟩, ?_, h8⟩
      rw [World.putObj_heap_other]
      · exact h7
      · rintro rfl
        rw [h7] at ho
        cases ho
        cases hc
    case h02 => exact ⟨hw_U, Lie.refl _ _, JM2, _, J13, World.ownsRow_nil _ _ _ _, fun g h => by cases h⟩
    case assign2 =>
      rintro l pre T x X ⟨h1, h2, h3, v13, h4, h5, h6⟩ hT hlen ⟨hpre, hxat⟩ hgv
      have hb' := new_below X (.cells #[.int .i64 x.st, .slice x.A x.wd.length x.c] 70)
      unfold encF
      gi_wp2
      exact ⟨.of_below _ hb', X.heap.size, h2.size, ⟨via h1 hb', h2.trans (.of_below _ hb'), h3.below hb', v13, bk_keep hb' h4, owns_below h5 hb', h6⟩, bk_new _ _ rfl, rfl⟩
    case body2 =>
      rintro l pre T x a X ⟨Bx, hBx, ⟨h1, h2, h3, v13, h4, h5, h6⟩, hXb, rfl⟩ hT hlen
      obtain ⟨s, hs⟩ : ∃ s, x.st = s := ⟨_, rfl⟩
      obtain ⟨XA, hXA⟩ : ∃ A, x.A = A := ⟨_, rfl⟩
      obtain ⟨XL, hXL⟩ : ∃ A, x.wd.length = A := ⟨_, rfl⟩
      obtain ⟨XC, hXC⟩ : ∃ A, x.c = A := ⟨_, rfl⟩
      rw [hs, hXA, hXL, hXC] at hXb ⊢
      obtain ⟨k, hk⟩ : ∃ k, pre.length = k := ⟨_, rfl⟩
      have hk8 : k < 9 := by
        rw [← hk]
        simp at hlen
        have := hN'.out
        omega
      obtain ⟨O, hO⟩ : ∃ O, pre.map (·.st) = O := ⟨_, rfl⟩
      have hOl : O.length = k := by rw [← hO, List.length_map, hk]
      have hsn : Hid ((pre ++ [x]).map (·.st) = O ++ [s]) := by
        unfold Hid
        rw [List.map_append, hO, ← hs]
        rfl
      have hpl : Hid ((pre ++ [x]).length = k + 1) := by
        unfold Hid
        rw [List.length_append, hk]
        rfl
      rw [hO] at h3
      rw [hO, hk] at h5
      obtain ⟨A13, c13, rfl⟩ := own_slice h5
      obtain ⟨ob, hup, hmp⟩ := h3.update (t := 66) key3 Tryz.underlying66 s k
      have hup' : (Instr.mapUpdate 66 (.map (some W'.heap.size)) (.int .i64 s) (.int .i64 k)).run Tryz.prog X = .ok () (X.putObj W'.heap.size ob) := hup
      have hg1 := grownBy_putObj' X W'.heap.size ob
      obtain ⟨X1, hX1⟩ : ∃ X1, X.putObj W'.heap.size ob = X1 := ⟨_, rfl⟩
      rw [hX1] at hup' hg1 hmp
      have hs1 : X1.heap.size = X.heap.size := by rw [← hX1, World.putObj_size]
      have hbU9 : ∀ g, (Value.slice A13 k c13).ownBlock = some g → U.heap.size ≤ g ∧ g < X.heap.size := fun g hg => h5.lt g hg
      have h51 : X1.ownsRow U.heap.size 3 1 (.slice A13 k c13) k (O.flatMap Nc) := owns_kept h5 fun g hg => hg1.block g (h5.lt g hg).2 (fun e => by injection e with e; have := (h5.lt g hg).1; omega)
      have h41 : X1.heap[W'.heap.size + 1 + 1]? = some (.cells #[.slice A13 k c13] 26 (0, 0)) := by
        rw [hg1.block _ (bk_size h4) (fun e => by injection e with e; omega)]
        exact h4
      have hXb1 : X1.heap[Bx]? = some (.cells #[.int .i64 s, .slice XA XL XC] 70 (0, 0)) := by
        rw [hg1.block _ (bk_size hXb) (fun e => by injection e with e; omega)]
        exact hXb
      have h12 : X.heap[W'.heap.size + 1]? = some (.cells #[.map (some W'.heap.size)] 66 (0, 0)) := h2.obj (by omega) J12
      obtain ⟨v14, X2, hr4, hq4, hg4, hd4⟩ := push_own h51 s (by omega) (by rw [hs1]; exact h2.size)
      have h42 : X2.heap[W'.heap.size + 1 + 1]? = some (.cells #[.slice A13 k c13] 26 (0, 0)) := by
        rw [hg4.block _ (bk_size h41) (fun e => by have := (hbU9 _ e.symm).1; omega)]
        exact h41
      have hmp2 := hmp.kept (hg4.block _ hmp.lt (fun e => by have := (hbU9 _ e.symm).1; omega))
      obtain ⟨A14, c14, rfl⟩ := own_slice hq4
      have Y0 := bk2 hXb
      have Y1 := bk1 h12
      have Y2 := bk1 h4
      have Y3 := bk1 h41
      have Y4 := bk2 hXb1
      have Y5 := bk1 h42
      have y0 := bk_size hXb
      have y4 := bk_size hXb1
      have y5 := bk_size h41
      have h2' := Lib.hid h2
      have h1' := Lib.hid h1
      have hs1' := Lib.hid hs1
      clear hup hs hXA hXL hXC hk hO hX1 h1 h2 hs1
      gi_wp2_with (refine wpListIn_app (by with_reducible rfl) (.tmp 79) (.tmp 82) 26 (by with_reducible rfl) (by rfl) (by rfl) hr4 ?_)
      have hs1 := hs1'.out
      have hbT : ∀ r, (Value.slice A14 (k + 1) c14).ownBlock = some r → T r ∨ X.heap.size ≤ r := fun r hr => by
        rcases hd4 with h | ⟨r', h, hr'⟩
        · exact .inl (h6 r (h ▸ hr))
        · rw [hr] at h
          cases h
          exact .inr (by omega)
      have hwX1 : Below w.heap.size w X1 := h1'.out.grown hg1 h1'.out.size (fun r e => by cases e; omega)
      have hwX2 : Below w.heap.size w X2 := hwX1.grown hg4 hwX1.size (fun r e => by have := (hbU9 r e).1; have := hw_U.size; omega)
      have hsX2 : X.heap.size ≤ X2.heap.size := by have := hg4.size; omega
      have hL2 : Lie (fun k => k = W'.heap.size ∨ k = W'.heap.size + 1 + 1) U (X2.setCell ⟨W'.heap.size + 1 + 1, 0, none⟩ (.slice A14 (k + 1) c14)) := by
        refine ⟨by have := h2'.out.size; simp; omega, fun j hj hm => ?_⟩
        have hjX := Nat.lt_of_lt_of_le hj h2'.out.size
        rw [Below.heap_setCell _ _ _ _ (by dsimp only; omega), hg4.block j (by omega) (fun e => by have := (hbU9 _ e.symm).1; omega), hg1.block j hjX (fun e => by injection e with e; omega)]
        exact h2'.out.same j hj hm
      refine ⟨fun r => (Value.slice A14 (k + 1) c14).ownBlock = some r, hbT, fun r hr => ?_, ?_, ?_, hL2, ?_, _, bk_here h42 _ rfl, ?_, fun g hg => hg⟩
      · have := (hq4.lt r hr).2
        simpa using this
      · refine Lie.trans (Lie.trans (Lie.of_grown hg1 fun r e => by cases e; exact .inl (.inl rfl)) (Lie.of_grown hg4 fun r e => .inr (h6 r e))) (Lie.setCell _ _ (.inl (.inr rfl)))
      · go_grown
      · rw [hsn.out, numMap_snoc, hOl]
        exact hmp2.kept (Below.heap_setCell _ _ _ _ (by dsimp only; omega))
      · rw [hsn.out, hpl.out]
        exact owns_kept hq4 fun g hg => Below.heap_setCell _ _ _ _ (by
          have := (hq4.lt g hg).1
          dsimp only
          omega)
    case stop2 =>
      rintro D c pre T X hS h
      exact h.elim
    case done2 =>
      rintro D2 ys T X hS2 ⟨h1, h2, h3, v13, h4, h5, h6⟩ rfl hK2
      obtain ⟨O, hO⟩ : ∃ O, ys.map (·.st) = O := ⟨_, rfl⟩
      have hOd : Hid (O = d2C mk.length cl bg) := by
        unfold Hid d2C
        rw [hnx2, hst'.out, hM'.out, ← hO, ← hS2, List.map_map]
        rfl
      rw [hO] at h3 h5
      have hyl : ys.length = O.length := by rw [← hO, List.length_map]
      rw [hyl] at h5
      have hOl : O.length ≤ 8 := by
        have h8 := bfsB_len hbU2 hU2
        rw [← hS2, List.length_map, hyl, List.length_range] at h8
        have := hN'.out
        omega
      obtain ⟨A13, c13, rfl⟩ := own_slice h5
      have L0 := h2.obj (by omega) J0
      have L1 := h2.obj (by omega) J1
      have L6 := h2.obj (by omega) J6
      have L7 := h2.obj (by omega) J7
      have L12 := h2.obj (by omega) J12
      have LK := h2.obj (by omega) JK
      have L3 := J3.kept (h2.same _ J3.lt (by rintro (e | e) <;> omega))
      have LSat : At 1 Nc X (some ⟨b6, o6, none⟩) SL := JSat.kept fun a ha => by
        cases ha
        refine h2.same _ (Nat.lt_of_lt_of_le hb6 hVU.size) ?_
        have : b6 < W.heap.size := by
          obtain ⟨b7, o7, hA7, hb7, -⟩ := hSat bg _ (hSLg bg hbgN)
          cases hA7
          exact hb7
        rintro (e | e) <;> (dsimp only at e; omega)
      have hO13 : At 1 Nc X A13 O := by
        obtain ⟨A', c', e', h9⟩ := at_of_owns (cs := Nc) (sz := 1) (fun _ => rfl) h5
        injection e' with e1 _ _
        rw [← e1] at h9
        exact h9
      have hCl := Lib.hid fun Z (hb : Below w.heap.size w Z) => cloneTexts_any mA mk mc Z (by rw [hM'.out]; omega) (hat'.out.mks.below hb)
      rw [hM'.out] at hCl
      have hC0' := bk3 L0
      have hL0s := bk_size L0
      have h1s := h1.size
      gi_wp2_with (refine ⟨trivial, ?_⟩; gi_at_call 29; refine (callsIn_wide.2 (hCl.out _ h1)).mono ?_; rintro e Z0 ⟨vm, rfl, hown15, hb15⟩; obtain ⟨MA, MC, rfl⟩ := own_slice hown15; have hc13 := bk1 (bk_alloc (bk_keep hb15 h4) (.cells #[.slice MA M MC, .int .i64 0, .slice none 0 0] 25)))
      refine wpIn_world ?_
      intro Z hW_Z
      have hXZ : Below X.heap.size X Z := by rw [hW_Z]; exact via hb15 (new_below _ _)
      obtain ⟨K15, hK15⟩ : ∃ K, Z0.heap.size = K := ⟨_, rfl⟩
      have N15 : Z.heap[K15]? = some (.cells #[.slice MA M MC, .int .i64 0, .slice none 0 0] 25 (0, 0)) := by rw [hW_Z, ← hK15]; exact bk_new _ _ rfl
      have hZs : Z.heap.size = K15 + 1 := by rw [hW_Z, ← hK15]; simp
      have hXK : X.heap.size ≤ K15 := by rw [← hK15]; exact hb15.size
      have hmk : Hid (At 1 Sc Z MA mk ∧ ∀ a, MA = some a → a.block < K15 ∧ w.heap.size + 2 ≤ a.block) := by
        have h9 : Z0.ownsRow X.heap.size 9 1 (.slice MA mk.length MC) mk.length (mk.flatMap Sc) := by rw [hM'.out]; exact hown15
        obtain ⟨A', c', e', h10⟩ := at_of_owns (cs := Sc) (sz := 1) (fun _ => rfl) h9
        injection e' with e1 _ _
        rw [← e1] at h10
        refine ⟨by rw [hW_Z]; exact h10.below (new_below _ _), fun a ha => ?_⟩
        have h11 := h9.lt a.block (by rw [ha]; rfl)
        have := bk_size L1
        exact ⟨by omega, by have := h2.size; have := hVU.size; omega⟩
      rw [hK15]
      clear hW_Z hown15 hb15 hc13
      have hwZ := via h1 hXZ
      have Q0 := bk_keep hXZ L0
      have Q1 := bk_keep hXZ L1
      have Q6 := bk_keep hXZ L6
      have Q7 := bk_keep hXZ L7
      have Q12 := bk_keep hXZ L12
      have QK := bk_keep hXZ LK
      have QK2 := bk_keep hXZ hK2
      have QM1 := L3.below hXZ
      have QM2 := h3.below hXZ
      have QS := LSat.below hXZ
      have QO := hO13.below hXZ
      have hsh' := Lib.hid hR'.out.sh
      have hnxr := Lib.hid hR'.out.nx
      have hw2Z : w2.heap.size + 7 ≤ K15 ∧ W'.heap.size + 3 ≤ K15 ∧ U.heap.size < K15 := by
        have := h2.size
        have := hVU.size
        have := bk_size hK2
        omega
      refine wpIn_wide.2 ?_
      go_loopw [90] (fun j wr => ∃ (i : Nat) (v : Value) (xs : List Cl), i ≤ O.length ∧ j = .int .i64 i ∧ Below w.heap.size w wr ∧ (Z.heap.size ≤ wr.heap.size ∧ ∀ k, k < K15 → wr.heap[k]? = Z.heap[k]?) ∧ wr.heap[K15]? = some (.cells #[.slice MA M MC, .int .i64 0, v] 25 (0, 0)) ∧
          Hid (OutC (K15 + 1) wr v xs ∧ xs.length = i ∧ xs.map Cl.key = (O.take i).map (clL mk.length cl bg)))
        (fun j _ => O.length - (intOf j).toNat)
      case atStart => exact ⟨0, _, [], Nat.zero_le _, rfl, hwZ, ⟨Nat.le_refl _, fun _ _ => rfl⟩, N15, OutC.nil _ _, rfl, rfl⟩
      case round =>
        obtain ⟨i, v, xs, hi, rfl, hbw, ⟨hZr, hkeep⟩, hblk, ho⟩ := hrel
        have hkp : ∀ {k : Nat} {ob : Obj}, k < K15 → Z.heap[k]? = some ob → wr.heap[k]? = some ob := fun {k ob} hk h => (hkeep k hk).trans h
        by_cases hlt : i < O.length
        · obtain ⟨n, hn⟩ : ∃ n, O[i]? = some n := ⟨_, List.getElem?_eq_getElem hlt⟩
          obtain ⟨b13, o13, hA13, hb13, hc13⟩ := QO i n hn
          have o0 := hc13 0 _ rfl
          have hb13K : b13 < K15 := by
            obtain ⟨b', o', hA', hb', -⟩ := hO13 i n hn
            rw [hA13] at hA'
            cases hA'
            omega
          have o1 : wr.cell? ⟨b13, o13 + i, none⟩ = some (.int .i64 n) := by
            rw [← o0]
            simp only [Nat.mul_one, Nat.add_zero]
            exact World.cell?_of_block (a := ⟨b13, o13 + i, none⟩) (hkeep b13 hb13K)
          have hb13r := World.block_lt_of_cell? _ _ o1
          dsimp only at hb13r
          subst hA13
          obtain ⟨h, hh⟩ : ∃ h, hdf n = h := ⟨_, rfl⟩
          have hhN : h < N := by rw [← hh]; exact hhd n
          obtain ⟨y, hy⟩ : ∃ y, cl[h]? = some y := ⟨_, List.getElem?_eq_getElem (by rw [hN'.out]; exact hhN)⟩
          have hym := List.mem_of_getElem? hy
          obtain ⟨hn1, hn2⟩ := hsh'.out y hym
          rw [hM'.out] at hn1 hn2
          have hcl : Hid (clL mk.length cl bg n = (y.nm, y.nx.map (fun (t : Int) => ((numC O (st t.toNat) : Nat) : Int)), y.rs)) := by
            unfold Hid clL
            rw [hst'.out, hhdf, hh, hy, ← hOd.out]
          have hlk : (Instr.lookup 66 (.map (some (w2.heap.size + 1))) (.int .i64 n) false).run Tryz.prog wr = .ok (.int .i64 h) wr := by
            have := (QM1.kept (hkeep _ (by omega))).look (t := 66) key3 Tryz.underlying66 (z := .int .i64 0) (by kernel_rfl) n false
            rw [← hh, ← hhdf]
            unfold hdC
            cases hl : lkM (hdMap st (d1C mk.length cl bg)) n with
            | none => rw [hl] at this; exact this
            | some v => rw [hl] at this; exact this
          obtain ⟨b, o, hcA, hb, hc⟩ := hat'.out.cls h y hy
          have hatn := Lib.hid (hat'.out.nxs y hym)
          have hatr := Lib.hid (hat'.out.rss y hym)
          have hnxy := Lib.hid (hnxr.out y hym)
          have htk : Hid (O.take (i + 1) = O.take i ++ [n]) := by
            obtain ⟨hk', he⟩ := List.getElem?_eq_some_iff.1 hn
            unfold Hid
            rw [List.take_succ_eq_append_getElem hk', he]
          obtain ⟨nm, nA, nx, nc, rA, rs, rc⟩ := y
          dsimp only at hn1 hn2 hatn hatr hnxy hcl
          have y0 := (gcell hbw b (o + h * 3 + 0) hb).trans (hc 0 _ rfl)
          have y1 := (gcell hbw b (o + h * 3 + 1) hb).trans (hc 1 _ rfl)
          have y2 := (gcell hbw b (o + h * 3 + 2) hb).trans (hc 2 _ rfl)
          dsimp only at y0 y1 y2
          rw [hn1] at y1
          rw [hn2] at y2
          simp only [Nat.add_zero] at y0
          have hbr : b < wr.heap.size := Nat.lt_of_lt_of_le hb hbw.size
          have hiI : (i : Int) < (O.length : Int) := by omega
          have hhI : (h : Int) < (N : Int) := by omega
          have R0 := hkp (by omega) Q0
          have R7 := hkp (by omega) Q7
          have C0 := bk3 R0
          have C7 := bk1 R7
          have hR0s := bk_size R0
          have hR7s := bk_size R7
          have hKs := bk_size hblk
          rw [hcA] at R0 C0
          have hcA' := Lib.hid hcA
          clear hc hy hym hc13 hcA
          go_wp2_with fail
          refine wp_world ?_
          intro wc hW_wc
          have hb_wc : Below w.heap.size w wc := by rw [hW_wc]; go_grown
          have T18 : wc.heap[wr.heap.size]? = some (.cells #[.string nm, .slice nA M nc, .slice rA M rc] 57 (0, 0)) := by rw [hW_wc]; (repeat (first | assumption | (refine bk_new _ _ ?_; (simp; done)) | refine bk_drew ?_ | refine bk_alloc ?_ _ | refine bk_set ?_ (by simp <;> omega) _))
          have hbc : Below wr.heap.size wr wc := by rw [hW_wc]; exact new_below _ _
          have hwcs : wc.heap.size = wr.heap.size + 1 := by rw [hW_wc]; simp
          clear hW_wc
          have hCr := Lib.hid fun x (hb : Below w.heap.size w x) => cloneTexts_any rA rs rc x (by omega) (hatr.out.below hb)
          rw [hn2] at hCr
          apply region_cms w 4 6 7 (fun h => .slice h.a1 M h.c1) (fun h x => x.ownsRow wc.heap.size 9 1 (.slice h.a1 M h.c1) M (rs.flatMap Sc)) (fun b h => some b ≠ (Value.slice h.a1 M h.c1).ownBlock) (.cells #[.string ByteArray.empty, .slice none 0 0, .slice none 0 0] 57 (0, 0)) (fun h => .cells #[.string nm, .slice none 0 0, .slice h.a1 M h.c1] 57 (0, 0))
          case hm => kernel_rfl
          case hB => kernel_rfl
          case hB' => intro g; kernel_rfl
          case hS => kernel_rfl
          case hN => kernel_rfl
          case hne => decide
          case ht => kernel_rfl
          case hw => exact hb_wc
          case hPs => exact fun h x x' hp hb => owns_below hp hb
          case hPa => exact fun h x hp e => by have := (hp.lt _ e.symm).2; omega
          case hPo => exact fun h b x x' hp ha ho => owns_kept hp fun g hg => ho.other g (fun e => ha (e ▸ hg.symm))
          case hal => intro o ho; simp at ho; subst ho; intro a x; kernel_rfl
          case hcl =>
            intro o ho g x hx hx0
            simp only [List.getElem?_cons_succ, List.getElem?_cons_zero, Option.some.injEq] at ho
            subst ho
            refine ⟨29, #[.slice rA M rc], by kernel_rfl, (hCr.out x hx0).mono ?_⟩
            rintro e x' ⟨v, rfl, h1, h2⟩
            obtain ⟨A', c', rfl⟩ := own_slice h1
            exact ⟨{ Gh.zero with a1 := A', c1 := c' }, rfl, owns_base h1 hx.size, fun b hb e => by have := (h1.lt b e.symm).1; omega, h2⟩
          case hq =>
            intro g u hu hgc hbx hbX
            have T7 := bk_keep hu T18
            have u0 := bk3 T7
            have hus := bk_size T7
            simp only [mixL, mkCM, yieldsC, List.contains_cons, List.contains_nil, Nat.reduceAdd, Nat.reduceBEq, Nat.reduceEqDiff, Nat.zero_add, Bool.or_false, Bool.or_true, Bool.false_or, Bool.true_or, Bool.false_eq_true, if_true, if_false, Bool.or_self]
            repeat (go_big_quiet_step (fail))
            exact wpQuiet_nil rfl
          case hind => intro j hj; simp only [List.mem_cons, List.not_mem_nil, or_false] at hj; rcases hj with rfl | rfl | rfl <;> (intro g h; kernel_rfl)
          case hs1 =>
            intro o ho g x hx hz hp
            simp only [List.getElem?_cons_succ, List.getElem?_cons_zero, Option.some.injEq] at ho
            subst ho
            exact ⟨_, run_store3 rfl rfl rfl rfl (by kernel_rfl) (by kernel_rfl) (by kernel_rfl) hz, (((OnlyB.refl _ _).set _ _).set _ _).set _ _, bk_here (bk_here (bk_here hz _ rfl) _ rfl) _ rfl⟩
          case hend =>
            intro g x hK hx hx0 hP hAp hblk19
            obtain ⟨K19, hK19⟩ : ∃ K, (g 6).b = K := ⟨_, rfl⟩
            rw [hK19] at hK hAp hblk19
            obtain ⟨RA, hRA⟩ : ∃ A, (g 4).a1 = A := ⟨_, rfl⟩
            obtain ⟨RC, hRC⟩ : ∃ A, (g 4).c1 = A := ⟨_, rfl⟩
            rw [hRA, hRC] at hP hAp hblk19
            have T7 := bk_keep hx T18
            have t7 := bk3 T7
            have ht7s := bk_size T7
            have hP' := Lib.hid hP
            have hAp' := Lib.hid hAp
            clear hP hAp
            go_wp2_with fail
            have hKx := bk_size hblk19
            have hwcx := hx.size
            have hrx : ∀ {b : Nat} {ob : Obj}, b < wr.heap.size → wr.heap[b]? = some ob → x.heap[b]? = some ob := fun {b ob} hb h => bk_keep hx (bk_keep hbc h)
            obtain ⟨f, hf⟩ : ∃ f : Int → Nat, (fun (t : Int) => numC O (st t.toNat)) = f := ⟨_, rfl⟩
            have hff : ∀ t, numC O (st t.toNat) = f t := fun t => by rw [← hf]
            have hx0' := Lib.hid hx0
            go_loopw [110] (fun jj wi => ∃ (k : Nat) (vn : Value), k ≤ M ∧ jj = .int .i64 k ∧ Below w.heap.size w wi ∧ (x.heap.size ≤ wi.heap.size ∧ ∀ b, b < x.heap.size → b ≠ K19 → wi.heap[b]? = x.heap[b]?) ∧ wi.heap[K19]? = some (.cells #[.string nm, vn, .slice RA M RC] 57 (0, 0)) ∧ Hid (wi.ownsRow x.heap.size 3 1 vn k (((nx.take k).map fun t => ((f t : Nat) : Int)).flatMap Ic)))
              (fun jj _ => M - (intOf jj).toNat)
            case atStart => exact ⟨0, _, Nat.zero_le _, rfl, hx0, ⟨Nat.le_refl _, fun _ _ _ => rfl⟩, hblk19, World.ownsRow_nil _ _ _ _⟩
            case round =>
              obtain ⟨k, vn, hkM, rfl, hbwi, ⟨hxi, hkp2⟩, hblki, hon⟩ := hrel
              have hki : ∀ {b : Nat} {ob : Obj}, b < K15 → Z.heap[b]? = some ob → wr.heap[b]? = some ob := fun {b ob} hb h => by
                rw [hkp2 b (by omega) (by omega)]
                exact hrx (by omega) (hkp hb h)
              obtain ⟨An, cn, rfl⟩ := own_slice hon.out
              by_cases hkl : k < M
              · obtain ⟨y, hy⟩ : ∃ y, nx[k]? = some y := ⟨_, List.getElem?_eq_getElem (by omega)⟩
                have hyr := hnxy.out y (List.mem_of_getElem? hy)
                obtain ⟨t, rfl⟩ : ∃ t : Nat, y = (t : Int) := ⟨y.toNat, by omega⟩
                rw [hN'.out] at hyr
                obtain ⟨b', o', hAn, hb', hc'⟩ := hatn.out k _ hy
                subst hAn
                have z0 := (gcell hbwi b' (o' + k) hb').trans (by simpa using hc' 0 _ rfl)
                have hb'r : b' < wr.heap.size := Nat.lt_of_lt_of_le hb' hbwi.size
                obtain ⟨b7, o7, hA7, hb7, hc7⟩ := QS t _ (hSLg t (by omega))
                cases hA7
                have hb6K : b6 < K15 := by
                  obtain ⟨b8, o8, hA8, hb8, -⟩ := LSat 0 _ (hSLg 0 (by omega))
                  cases hA8
                  omega
                obtain ⟨r, hr⟩ : ∃ r, st t = r := ⟨_, rfl⟩
                obtain ⟨q, hq⟩ : ∃ q, f (t : Int) = q := ⟨_, rfl⟩
                have hqn : (lkM (numMap O) r).getD 0 = q := by
                  rw [← hq, ← hff, ← hr]
                  rfl
                have htk2 : Hid (((nx.take k).map fun t => ((f t : Nat) : Int)).flatMap Ic ++ [.int .i64 (q : Int)] = ((nx.take (k + 1)).map fun t => ((f t : Nat) : Int)).flatMap Ic) := by
                  obtain ⟨hk', he⟩ := List.getElem?_eq_some_iff.1 hy
                  unfold Hid
                  rw [List.take_succ_eq_append_getElem hk', he, List.map_append, List.flatMap_append]
                  simp [hq, Ic]
                have hkI : (k : Int) < (M : Int) := by omega
                have htI : (t : Int) < (N : Int) := by omega
                have hCz : ∀ u : World, (∀ b, b < x.heap.size → b ≠ K19 → u.heap[b]? = x.heap[b]?) → ∀ {b : Nat} {ob : Obj}, b < K15 → Z.heap[b]? = some ob → u.heap[b]? = some ob := fun u hu b ob hb h => by
                  rw [hu b (by omega) (by omega)]
                  exact hrx (by omega) (hkp hb h)
                have hCzb : ∀ u : World, (∀ b, b < x.heap.size → b ≠ K19 → u.heap[b]? = x.heap[b]?) → ∀ b, b < K15 → u.heap[b]? = Z.heap[b]? := fun u hu b hb => by
                  have hbz : b < Z.heap.size := by omega
                  rw [Array.getElem?_eq_getElem hbz]
                  exact hCz u hu hb (Array.getElem?_eq_getElem hbz)
                have hc7' := Lib.hid (hc7 0 _ rfl)
                obtain ⟨i3, z3, hi3, hz3, hi3s, hz3s, hi3b⟩ := info_of (t := 3) (n := 1) (b := 8) (by kernel_rfl)
                have hKi := bk_size hblki
                clear hy hc'
                go_wp2_with fail
                apply region_app { wr with heap := #[] } (fun u => wr.heap.size ≤ u.heap.size ∧ u.os = wr.os ∧ u.tape = wr.tape ∧ u.output = wr.output ∧ ∀ b, b < x.heap.size → b ≠ K19 → u.heap[b]? = x.heap[b]?) 1 8 9 11 K19 1 #[.string nm, .slice An k cn, .slice RA M RC] 57 (.cells #[.int .i64 (q : Int)] 3 (0, 0)) x.heap.size 3 1 (.slice An k cn) k (((nx.take k).map fun t => ((f t : Nat) : Int)).flatMap Ic) [.int .i64 (q : Int)]
                case hm => kernel_rfl
                case hB => kernel_rfl
                case hB' => intro g; kernel_rfl
                case hS => kernel_rfl
                case hN => kernel_rfl
                case hne => decide
                case hd => kernel_rfl
                case hd2 => kernel_rfl
                case hC0 => exact ⟨Nat.le_refl _, rfl, rfl, rfl, hkp2⟩
                case hCs => exact fun u u' h hb => ⟨Nat.le_trans h.1 hb.size, hb.os.trans h.2.1, hb.tape.trans h.2.2.1, hb.output.trans h.2.2.2.1, fun b hb1 hb2 => (hb.block b (by have := h.1; omega)).trans (h.2.2.2.2 b hb1 hb2)⟩
                case hCw => exact fun u h => ⟨h.2.1, h.2.2.1, h.2.2.2.1, Nat.zero_le _, fun r hr => absurd hr (Nat.not_lt_zero _)⟩
                case hCg => exact fun u u' row h hg hr => ⟨Nat.le_trans h.1 hg.size, hg.os.trans h.2.1, hg.tape.trans h.2.2.1, hg.output.trans h.2.2.2.1, fun b hb1 hb2 => (hg.block b (by have := h.1; omega) (fun e => by have := hr _ e.symm; omega)).trans (h.2.2.2.2 b hb1 hb2)⟩
                case hCt => exact fun u v h => ⟨by simpa using h.1, h.2.1, h.2.2.1, h.2.2.2.1, fun b hb1 hb2 => (Below.heap_setCell u _ _ b (by dsimp only; exact hb2)).trans (h.2.2.2.2 b hb1 hb2)⟩
                case hbase => exact hKx
                case hbs => exact .inr hxi
                case hblk => exact hblki
                case hown => exact hon.out
                case hCz => exact fun u h => Nat.le_trans hxi h.1
                case hq =>
                  intro g u hC hgc hbx hbX
                  have D12 := bk1 (hCz u hC.2.2.2.2 (by omega) Q12)
                  have D6 := bk1 (hCz u hC.2.2.2.2 (by omega) Q6)
                  have D12s := bk_size (hCz u hC.2.2.2.2 (by omega) Q12)
                  have D6s := bk_size (hCz u hC.2.2.2.2 (by omega) Q6)
                  have d7 : u.cell? ⟨b6, o6 + t, none⟩ = some (.int .i64 r) := by
                    have h9 := hc7'.out
                    rw [hr] at h9
                    simp only [Nat.mul_one, Nat.add_zero] at h9
                    rw [← h9]
                    exact World.cell?_of_block (a := ⟨b6, o6 + t, none⟩) (hCzb u hC.2.2.2.2 b6 hb6K)
                  have d7s : b6 < u.heap.size := World.block_lt_of_cell? _ _ d7
                  have hlk2 : ∀ y : Grew u, (Instr.lookup 66 (.map (some W'.heap.size)) (.int .i64 r) false).run Tryz.prog y.val = .ok (.int .i64 q) y.val := fun y => by
                    have := ((QM2.kept (hCzb u hC.2.2.2.2 _ (by omega))).below y.ok).look (t := 66) key3 Tryz.underlying66 (z := .int .i64 0) (by kernel_rfl) r false
                    rw [← hqn]
                    cases hl : lkM (numMap O) r with
                    | none => rw [hl] at this; exact this
                    | some v => rw [hl] at this; exact this
                  simp only [mixL, mkA, yieldsC, List.contains_cons, List.contains_nil, Nat.reduceAdd, Nat.reduceBEq, Nat.reduceEqDiff, Nat.zero_add, Bool.or_false, Bool.or_true, Bool.false_or, Bool.true_or, Bool.false_eq_true, if_true, if_false, Bool.or_self]
                  repeat (go_big_quiet_step (fail))
                  exact wpQuiet_nil rfl
                case hind => intro j hj; simp only [List.mem_cons, List.not_mem_nil, or_false] at hj; rcases hj with rfl | rfl | rfl | rfl <;> (intro g h; kernel_rfl)
                case hr =>
                  intro o ho gg u hC hb
                  simp only [List.getElem?_cons_succ, List.getElem?_cons_zero, Option.some.injEq] at ho
                  subst ho
                  exact run_load_slice rfl (by kernel_rfl) (by kernel_rfl) (bk3 hb).2.1
                case hm1 =>
                  intro o ho gg u
                  simp only [List.getElem?_cons_succ, List.getElem?_cons_zero, Option.some.injEq] at ho
                  subst ho
                  kernel_rfl
                case hq1 =>
                  intro o ho gg u hC hown hz
                  simp only [List.getElem?_cons_succ, List.getElem?_cons_zero, Option.some.injEq] at ho
                  subst ho
                  exact exec_append (.tmp 115) (.tmp 122) 26 3 i3 z3 _ 1 8 x.heap.size k _ _ _ 3 rfl (by kernel_rfl) (by kernel_rfl) Tryz.underlying26 hi3 hz3 hi3s hi3b hz3s (by decide) hown hz rfl (by intro u hu; simp at hu; subst hu; rfl) (by unfold maxLen; omega) (by omega) (by have := hC.1; omega)
                case hk1 =>
                  intro o ho gg u hb
                  simp only [List.getElem?_cons_succ, List.getElem?_cons_zero, Option.some.injEq] at ho
                  subst ho
                  exact run_store_slice rfl (by kernel_rfl) (by kernel_rfl) (by kernel_rfl) (bk3 hb).2.1 (bk_free hb 1)
                case hend =>
                  intro gg u hC hb2 hown2
                  rw [htk2.out] at hown2
                  have hown3 := Lib.hid hown2
                  have hCu := Lib.hid hC
                  clear hown2 hC
                  go_wp2_with fail
                  go_roundw
                  case rel => exact ⟨k + 1, _, by omega, by go_num, ⟨hCu.out.2.1.trans hbwi.os, hCu.out.2.2.1.trans hbwi.tape, hCu.out.2.2.2.1.trans hbwi.output, Nat.le_trans hbwi.size hCu.out.1, fun b hb => by
                    have h9 := hx0'.out.size
                    rw [hCu.out.2.2.2.2 b (by omega) (by omega)]
                    exact hx0'.out.block b hb⟩, ⟨Nat.le_trans hxi hCu.out.1, hCu.out.2.2.2.2⟩, hb2, hown3⟩
                  case measure => simp [intOf]; omega
              · have hkM2 : k = M := by omega
                subst hkM2
                have R15 : wr.heap[K15]? = some (.cells #[.slice MA k MC, .int .i64 0, v] 25 (0, 0)) := by
                  rw [hkp2 K15 (by omega) (by omega)]
                  exact hrx (by omega) hblk
                obtain ⟨hoc, hxl, hxk⟩ := ho.out
                obtain ⟨Av, cv, rfl, hatv⟩ := hoc.cls
                have hkI : ¬ (k : Int) < (k : Int) := by omega
                have r15 := bk3 R15
                have r19 := bk3 hblki
                have hR15s := bk_size R15
                have hR19s := bk_size hblki
                have hon' := Lib.hid hon.out
                obtain ⟨i57, z57, hi57, hz57, hi57s, hz57s, hi57b⟩ := info_of (t := 57) (n := 3) (b := 64) (by kernel_rfl)
                have hrb : ∀ b, b + 1 < wc.heap.size → wr.heap[b]? = wc.heap[b]? := fun b hb => (hkp2 b (by omega) (by omega)).trans (hx.block b (by omega))
                have hoca := hoc.kept (w' := wr) (by omega) (fun b _ hb => (hrb b (by omega)).trans (hbc.block b hb))
                have hvs : ∀ g, (Value.slice Av xs.length cv).ownBlock = some g → K15 + 1 ≤ g ∧ g + 1 < wc.heap.size := fun g hg => by
                  have := hoc.own.lt g hg
                  exact ⟨this.1, by omega⟩
                obtain ⟨v29, w29, hr29, ho29, hor29⟩ := run_append3 (P := Tryz.prog) (w := wr.alloc (.cells #[.string nm, .slice An k cn, .slice RA k RC] 57)) (K15 + 1) 23 23 57 i57 z57 3 64 Tryz.underlying23 hi57 hz57 hi57s hi57b hz57s (.slice Av xs.length cv) xs.length (xs.flatMap Cl.cs) (hoca.own.alloc _) ⟨wr.heap.size, 0, none⟩ 1 1 [.string nm, .slice An k cn, .slice RA k RC] rfl (fun j u hj => World.news_of_block (bk_new wr (.cells #[.string nm, .slice An k cn, .slice RA k RC] 57) rfl) j u hj) (by intro u hu; simp at hu; rcases hu with rfl | rfl | rfl <;> rfl) (by decide) (by unfold maxLen; omega) (by omega) (by simp; omega)
                obtain ⟨A29, c29, rfl⟩ := own_slice ho29
                have hg29 : wr.heap.size ≤ w29.heap.size ∧ ∀ b, b < wr.heap.size → (Value.slice Av xs.length cv).ownBlock ≠ some b → w29.heap[b]? = wr.heap[b]? := by
                  rcases hor29 with ⟨hg, -⟩ | ⟨hg, -⟩
                  · exact ⟨by have := hg.size; simp at this; omega, fun b hb _ => (hg.block b (by simp; omega) (by simp)).trans (Below.heap_alloc wr _ b hb)⟩
                  · exact ⟨by have := hg.size; simp at this; omega, fun b hb hne => (hg.block b (by simp; omega) (fun e => hne e.symm)).trans (Below.heap_alloc wr _ b hb)⟩
                have hv29 : (Value.slice A29 (xs.length + 1) c29).ownBlock = (Value.slice Av xs.length cv).ownBlock ∨ ∃ r, (Value.slice A29 (xs.length + 1) c29).ownBlock = some r ∧ wr.heap.size ≤ r := by
                  rcases hor29 with ⟨-, h⟩ | ⟨-, h⟩
                  · exact .inr ⟨_, h, by simp⟩
                  · exact .inl h
                have hw29 : Below w.heap.size w w29 := by
                  have h9 : Below w.heap.size w (wr.alloc (.cells #[.string nm, .slice An k cn, .slice RA k RC] 57)) := via_alloc hbwi _
                  rcases hor29 with ⟨hg, -⟩ | ⟨hg, -⟩
                  · exact h9.grown hg h9.size (fun r e => by cases e)
                  · exact h9.grown hg h9.size (fun r e => by have := (hvs r e).1; omega)
                have e15 : w29.heap[K15]? = some (.cells #[.slice MA k MC, .int .i64 0, .slice Av xs.length cv] 25 (0, 0)) := by
                  rw [hg29.2 K15 (by omega) (fun e => by have := (hvs _ e).1; omega)]
                  exact R15
                have E15 := bk3 e15
                have hcs : Hid (clL mk.length cl bg n = (nm, nx.map (fun t => ((f t : Nat) : Int)), rs)) := by
                  unfold Hid
                  rw [hcl.out]
                  simp only [hff]
                have hxl' := Lib.hid hxl
                have hxk' := Lib.hid hxk
                have hoca' := Lib.hid hoca
                have hv29' := Lib.hid hv29
                clear hoc hoca hatv hxl hxk ho
                go_wp2_with (at_builtin; refine wpList_app rfl (.tmp 127) (.tmp 129) 23 rfl rfl rfl hr29 ?_)
                go_roundw
                case rel =>
                  have hAn : At 1 Ic w29 An (nx.map fun t => ((f t : Nat) : Int)) ∧ ∀ a, An = some a → K15 + 1 ≤ a.block ∧ a.block < w29.heap.size ∧ (Value.slice A29 (xs.length + 1) c29).ownBlock ≠ some a.block := by
                    have h9 : wr.ownsRow x.heap.size 3 1 (.slice An (nx.map fun t => ((f t : Nat) : Int)).length cn) (nx.map fun t => ((f t : Nat) : Int)).length ((nx.map fun t => ((f t : Nat) : Int)).flatMap Ic) := by
                      have := hon'.out
                      rw [List.take_of_length_le (by omega)] at this
                      rw [List.length_map, hn1]
                      exact this
                    have hln : (nx.map fun t => ((f t : Nat) : Int)).length = k := by rw [List.length_map, hn1]
                    obtain ⟨A', c', e', h10⟩ := at_of_owns (cs := Ic) (sz := 1) (fun _ => rfl) h9
                    injection e' with e1 _ _
                    rw [← e1] at h10
                    have h11 : ∀ a, An = some a → x.heap.size ≤ a.block ∧ a.block < wr.heap.size := fun a ha => h9.lt a.block (by rw [ha]; rfl)
                    refine ⟨h10.kept fun a ha => hg29.2 _ (h11 a ha).2 (fun e => by have := (hvs _ e).2; have := (h11 a ha).1; omega), fun a ha => ⟨by have := (h11 a ha).1; omega, by have := (h11 a ha).2; have := hg29.1; omega, fun e => ?_⟩⟩
                    rcases hv29'.out with h | ⟨r, h, hr⟩
                    · have := (hvs _ (h ▸ e)).2
                      have := (h11 a ha).1
                      omega
                    · rw [e] at h
                      injection h with h
                      have := (h11 a ha).2
                      omega
                  have hRA : At 1 Sc w29 RA rs ∧ ∀ a, RA = some a → K15 + 1 ≤ a.block ∧ a.block < w29.heap.size ∧ (Value.slice A29 (xs.length + 1) c29).ownBlock ≠ some a.block := by
                    have h9 : x.ownsRow wc.heap.size 9 1 (.slice RA rs.length RC) rs.length (rs.flatMap Sc) := by
                      rw [hn2]
                      exact hP'.out
                    obtain ⟨A', c', e', h10⟩ := at_of_owns (cs := Sc) (sz := 1) (fun _ => rfl) h9
                    injection e' with e1 _ _
                    rw [← e1] at h10
                    have h11 : ∀ a, RA = some a → wc.heap.size ≤ a.block ∧ a.block < x.heap.size ∧ a.block ≠ K19 := fun a ha => by
                      have := h9.lt a.block (by rw [ha]; rfl)
                      exact ⟨this.1, this.2, fun e => hAp'.out (by rw [ha, ← e]; rfl)⟩
                    refine ⟨h10.kept fun a ha => (hg29.2 _ (by have := (h11 a ha).2.1; omega) (fun e => by have := (hvs _ e).2; have := (h11 a ha).1; omega)).trans (hkp2 _ (h11 a ha).2.1 (h11 a ha).2.2), fun a ha => ⟨by have := (h11 a ha).1; omega, by have := (h11 a ha).2.1; have := hg29.1; omega, fun e => ?_⟩⟩
                    rcases hv29'.out with h | ⟨r, h, hr⟩
                    · have := (hvs _ (h ▸ e)).2
                      have := (h11 a ha).1
                      omega
                    · rw [e] at h
                      injection h with h
                      have := (h11 a ha).2.1
                      omega
                  have hpush := hoca'.out.push (y := ⟨nm, An, nx.map (fun t => ((f t : Nat) : Int)), cn, RA, rs, RC⟩) (w' := w29) (v' := .slice A29 (xs.length + 1) c29) (by
                    unfold Cl.cs
                    dsimp only
                    rw [List.length_map, hn1, hn2]
                    exact ho29) hg29.1 (fun b _ hb hne => hg29.2 b hb hne) hv29'.out hAn.1 hAn.2 hRA.1 hRA.2
                  refine ⟨i + 1, _, _, by omega, by go_num, ?_, ⟨?_, ?_⟩, bk_here e15 _ rfl (o := 2), hpush.kept (by simp) (fun b hb _ => Below.heap_setCell _ _ _ b (by dsimp only; omega)), ?_, ?_⟩
                  · go_grown
                  · have := hg29.1
                    simp
                    omega
                  · intro b hb
                    rw [Below.heap_setCell _ _ _ b (by dsimp only; omega), hg29.2 b (by omega) (fun e => by have := (hvs _ e).1; omega), hrb b (by omega), hbc.block b (by omega)]
                    exact hkeep b hb
                  · rw [List.length_append, hxl'.out]
                    rfl
                  · rw [htk.out, List.map_append, List.map_append, hxk'.out]
                    congr 1
                    simp only [List.map_cons, List.map_nil]
                    rw [hcs.out]
                    rfl
                case measure => simp [intOf]; omega
        · have hiN : i = O.length := by omega
          subst hiN
          obtain ⟨hoc, hxl, hxk⟩ := ho.out
          obtain ⟨Av, cv, rfl, hatv⟩ := hoc.cls
          have R1 := hkp (by omega) Q1
          have C1 := bk3 hblk
          have C2 := bk3 R1
          have hKs := bk_size hblk
          have ho' := Lib.hid ho.out
          have hxl' := Lib.hid hxl
          have hOx : Hid (O.length = xs.length) := hxl.symm
          clear ho hoc hxk hatv hxl
          have RK := hkp (by omega) QK
          have RK2 := hkp (by omega) QK2
          rw [hWsz] at RK
          rw [hUs] at RK2
          go_wp2_with fail
          gi_wp2
          have hdis : w.heap.size + 1 < w2.heap.size + 7 ∧ w2.heap.size + 7 < wb.heap.size + 3 ∧ wb.heap.size + 3 < K15 := by omega
          have hS9 : ∀ b, b ≠ w.heap.size + 1 → (((wr.setCell ⟨w.heap.size + 1, 0, none⟩ (.slice MA M MC)).setCell ⟨w.heap.size + 1, 1, none⟩ (.int .i64 0)).setCell ⟨w.heap.size + 1, 2, none⟩ (.slice Av xs.length cv)).heap[b]? = wr.heap[b]? := fun b hb => (Below.heap_setCell _ _ _ b (by dsimp only; exact hb)).trans ((Below.heap_setCell _ _ _ b (by dsimp only; exact hb)).trans (Below.heap_setCell _ _ _ b (by dsimp only; exact hb)))
          have hR9 : (((wr.setCell ⟨w.heap.size + 1, 0, none⟩ (.slice MA M MC)).setCell ⟨w.heap.size + 1, 1, none⟩ (.int .i64 0)).setCell ⟨w.heap.size + 1, 2, none⟩ (.slice Av xs.length cv)).heap[w.heap.size + 1]? = some (.cells #[.slice MA M MC, .int .i64 0, .slice Av xs.length cv] 25 (0, 0)) := bk_here (bk_here (bk_here R1 (.slice MA M MC) rfl (o := 0)) (.int .i64 0) rfl (o := 1)) (.slice Av xs.length cv) rfl (o := 2)
          have hb9 : Below w.heap.size w (((wr.setCell ⟨w.heap.size + 1, 0, none⟩ (.slice MA M MC)).setCell ⟨w.heap.size + 1, 1, none⟩ (.int .i64 0)).setCell ⟨w.heap.size + 1, 2, none⟩ (.slice Av xs.length cv)) := by go_grown
          have hsz9 : (((wr.setCell ⟨w.heap.size + 1, 0, none⟩ (.slice MA M MC)).setCell ⟨w.heap.size + 1, 1, none⟩ (.int .i64 0)).setCell ⟨w.heap.size + 1, 2, none⟩ (.slice Av xs.length cv)).heap.size = wr.heap.size := by simp
          obtain ⟨hoc, hxl2, hxk⟩ := ho'.out
          have hoc9 := hoc.kept (w' := (((wr.setCell ⟨w.heap.size + 1, 0, none⟩ (.slice MA M MC)).setCell ⟨w.heap.size + 1, 1, none⟩ (.int .i64 0)).setCell ⟨w.heap.size + 1, 2, none⟩ (.slice Av xs.length cv))) (by simp) (fun b hb _ => hS9 b (by omega))
          have hmk9 : At 1 Sc (((wr.setCell ⟨w.heap.size + 1, 0, none⟩ (.slice MA M MC)).setCell ⟨w.heap.size + 1, 1, none⟩ (.int .i64 0)).setCell ⟨w.heap.size + 1, 2, none⟩ (.slice Av xs.length cv)) MA mk := hmk.out.1.kept fun a ha => by
            have := hmk.out.2 a ha
            rw [hS9 _ (by omega)]
            exact hkeep _ this.1
          have hK9 : (((wr.setCell ⟨w.heap.size + 1, 0, none⟩ (.slice MA M MC)).setCell ⟨w.heap.size + 1, 1, none⟩ (.int .i64 0)).setCell ⟨w.heap.size + 1, 2, none⟩ (.slice Av xs.length cv)).heap[wb.heap.size + 3]? = some (.deferred (some [])) := (hS9 _ (by omega)).trans RK2
          have hK9' : (((wr.setCell ⟨w.heap.size + 1, 0, none⟩ (.slice MA M MC)).setCell ⟨w.heap.size + 1, 1, none⟩ (.int .i64 0)).setCell ⟨w.heap.size + 1, 2, none⟩ (.slice Av xs.length cv)).heap[w2.heap.size + 7]? = some (.deferred (some [])) := (hS9 _ (by omega)).trans RK
          generalize (((wr.setCell ⟨w.heap.size + 1, 0, none⟩ (.slice MA M MC)).setCell ⟨w.heap.size + 1, 1, none⟩ (.int .i64 0)).setCell ⟨w.heap.size + 1, 2, none⟩ (.slice Av xs.length cv)) = V9 at *
          have hK10 : (V9.putObj (wb.heap.size + 3) (.deferred none)).heap[w2.heap.size + 7]? = some (.deferred (some [])) := (World.putObj_heap_other (by omega)).trans hK9'
          refine ⟨by simp, .inl ⟨_, _, rfl, run_takeDeferred hK9, ⟨by simp, .inl ⟨_, _, rfl, run_takeDeferred hK10, ?_⟩⟩⟩⟩
          obtain ⟨A', c', e', hcls⟩ := hoc9.cls
          injection e' with e1 _ _
          rw [← e1] at hcls
          have hpp : ∀ {α : Type} {sz : Nat} {cs : α → List Value} {A : Option Addr} {l : List α}, At sz cs V9 A l → At sz cs ((V9.putObj (wb.heap.size + 3) (.deferred none)).putObj (w2.heap.size + 7) (.deferred none)) A l := fun {α sz cs A l} hh => by
            intro k y hy
            obtain ⟨b', p', hA', hlt', hcc⟩ := hh k y hy
            exact ⟨b', p', hA', by rw [World.putObj_size, World.putObj_size]; exact hlt', fun j v hv => cell_putObj _ hK10 rfl (cell_putObj _ hK9 rfl (hcc j v hv))⟩
          have hR10 : ((V9.putObj (wb.heap.size + 3) (.deferred none)).putObj (w2.heap.size + 7) (.deferred none)).heap[w.heap.size + 1]? = some (.cells #[.slice MA M MC, .int .i64 0, .slice Av xs.length cv] 25 (0, 0)) := (World.putObj_heap_other (by omega)).trans ((World.putObj_heap_other (by omega)).trans hR9)
          refine ⟨.tuple #[.agg #[.slice MA M MC, .int .i64 0, .slice Av xs.length cv], .int .i64 0], ?_, ⟨MA, MC, Av, cv, xs, by rw [hM'.out], ⟨hpp hmk9, hpp hcls, fun z hz => hpp (hoc9.nx z hz).1, fun z hz => hpp (hoc9.rs z hz).1⟩, ?_⟩, ?_⟩
          · have R3 := bk3 hR10
            generalize (V9.putObj (wb.heap.size + 3) (.deferred none)).putObj (w2.heap.size + 7) (.deferred none) = V10 at *
            simp [results, Tryz.results8, go_sem, R3]
          · rw [hxk, List.take_of_length_le (Nat.le_refl _), ← hOd.out]
          · have h10 := hb9.grown (grownBy_putObj' V9 (wb.heap.size + 3) (.deferred none)) hb9.size (fun r e => by cases e; omega)
            exact h10.grown (grownBy_putObj' _ (w2.heap.size + 7) (.deferred none)) h10.size (fun r e => by cases e; omega)
end Go.Proofs
