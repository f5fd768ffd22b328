import Derived.Test.YtbikblifpfokaaaGreatDoorProg
import Derived.WalkKit
import Derived.Handy
import Derived.WalkLawsBesides
import Derived.WalkSpells
import Derived.Lib.ConvBytes
import Derived.Lib.Hide
import Derived.Test.YtbikblifpfokaaaGreatDoorMg1
set_option linter.unusedSimpArgs false
set_option linter.unusedVariables false
namespace Go.Proofs
open Go.RowKit

theorem ret_int {k : IntKind} {a b : Int} (h : a = b) : Ending.returned (.int k a) = .returned (.int k b) := by rw [h]

theorem floor_neg (n b : Int) (hb : 0 < b) (h : n.tmod b < 0) : n.tdiv b - 1 = n / b := by
  have h1 := Int.mul_tdiv_add_tmod n b
  have h2 : -b < n.tmod b := by have := Int.lt_tmod_of_pos n hb; omega
  rw [eq_comm]
  have : n = b * (n.tdiv b - 1) + (n.tmod b + b) := by rw [Int.mul_sub]; omega
  rw [this, Int.mul_add_ediv_left _ _ (by omega), Int.ediv_eq_zero_of_lt (by omega) (by omega)]
  rw [← this]; omega
theorem floor_pos (n b : Int) (hb : 0 < b) (h : 0 ≤ n.tmod b) : n.tdiv b = n / b := by
  have h1 := Int.mul_tdiv_add_tmod n b
  have h2 := Int.tmod_lt_of_pos n hb
  rw [eq_comm]
  have : n = b * (n.tdiv b) + (n.tmod b) := by omega
  rw [this, Int.mul_add_ediv_left _ _ (by omega), Int.ediv_eq_zero_of_lt (by omega) (by omega)]
  rw [← this]; omega
theorem ediv_bd (n b M : Int) (hb : 0 < b) (h1 : -M ≤ n) (h2 : n ≤ M) (hM : 0 ≤ M) : -M ≤ n / b ∧ n / b ≤ M := by
  constructor
  · refine (Int.le_ediv_iff_mul_le hb).2 ?_
    have : -M * b ≤ -M * 1 := Int.mul_le_mul_of_nonpos_left (by omega) (by omega)
    omega
  · have h3 : n / b ≤ M / b := Int.ediv_le_ediv hb h2
    have h4 := Int.ediv_le_self b hM
    omega

def letter (c : Int) : Bool := (decide (97 ≤ c) && decide (c ≤ 122)) || (decide (65 ≤ c) && decide (c ≤ 90))
def charOk (i : Nat) (c : Int) : Bool := letter c || (decide (i ≠ 0) && (decide (c = 45) || (decide (48 ≤ c) && decide (c ≤ 57))))
def charsOk (l : List UInt8) : Bool := (List.range l.length).all fun i => charOk i ((l.getD i 0).toNat : Int)
def nameB (l : List UInt8) : Bool := decide (1 ≤ l.length) && decide (l.length ≤ 12) && charsOk l

theorem charsOk_of (l : List UInt8) (h : ∀ j, j < l.length → charOk j ((l.getD j 0).toNat : Int) = true) : charsOk l = true := by
  unfold charsOk; rw [List.all_eq_true]; intro j hj; exact h j (List.mem_range.1 hj)
theorem charsOk_not (l : List UInt8) (j : Nat) (hj : j < l.length) (h : charOk j ((l.getD j 0).toNat : Int) = false) : charsOk l = false := by
  unfold charsOk; rw [List.all_eq_false]; exact ⟨j, List.mem_range.2 hj, by rw [h]; decide⟩

theorem chars_more {l : List UInt8} {k : Nat} {c : UInt8} (h : Hid (∀ j, j < k → charOk j ((l.getD j 0).toNat : Int) = true)) (hc : Hid (l.getD k 0 = c)) (h2 : charOk k (c.toNat : Int) = true) :
    Hid (∀ j, j < k + 1 → charOk j ((l.getD j 0).toNat : Int) = true) := by
  intro j hj
  by_cases e : j = k
  · subst e; rw [hc.out]; exact h2
  · exact h.out j (by omega)
theorem name_not {l : List UInt8} {k n : Nat} {c : UInt8} (hl : Hid (l.length = n)) (hk : k < n) (hc : Hid (l.getD k 0 = c)) (h2 : charOk k (c.toNat : Int) = false) : nameB l = false := by
  unfold nameB; rw [charsOk_not l k (by rw [hl.out]; exact hk) (by rw [hc.out]; exact h2)]; simp
theorem ok_is (k : Nat) (c : Int) (h : (97 ≤ c ∧ c ≤ 122) ∨ (65 ≤ c ∧ c ≤ 90) ∨ (k ≠ 0 ∧ (c = 45 ∨ (48 ≤ c ∧ c ≤ 57)))) : charOk k c = true := by
  unfold charOk letter; simp only [Bool.or_eq_true, Bool.and_eq_true, decide_eq_true_eq]; omega
theorem ok_not (k : Nat) (c : Int) (h : ¬ ((97 ≤ c ∧ c ≤ 122) ∨ (65 ≤ c ∧ c ≤ 90) ∨ (k ≠ 0 ∧ (c = 45 ∨ (48 ≤ c ∧ c ≤ 57))))) : charOk k c = false := by
  rw [← Bool.not_eq_true]; unfold charOk letter; simp only [Bool.or_eq_true, Bool.and_eq_true, decide_eq_true_eq]; omega
theorem name_end (l : List UInt8) (n : Nat) (hl : l.length = n) (hcs : charsOk l = true) : nameB l = (!l.isEmpty && decide ((n : Int) ≤ 12)) := by
  unfold nameB; rw [hcs, Bool.and_true, ← hl]; cases l <;> simp; omega
theorem ret_bool {a b : Bool} (h : a = b) : Ending.returned (.bool a) = .returned (.bool b) := by rw [h]

set_option maxRecDepth 100000 in
set_option maxHeartbeats 1000000 in
theorem isName_any (s : ByteArray) (w : World) (hs : s.size ≤ 9223372036854775807) :
    Calls Tryz.prog 43 #[.string s] w fun e w' => e = .returned (.bool (nameB s.data.toList)) ∧ Below w.heap.size w w' := by
  have hconv := fun W : World => Lib.run_convert_string_bytes (P := Tryz.prog) W 9 119 5 s Tryz.underlying9 Tryz.underlying119 Tryz.underlying5
  have hB : Hid (Below w.heap.size w (Lib.bytesWorld w 5 s)) := ⟨rfl, rfl, rfl, by rw [Lib.bytesWorld_size]; omega, fun k hk => Lib.bytesWorld_at_old w 5 s k hk⟩
  have hlen : Hid (s.data.toList.length = s.size) := by simp [Hid]
  go_enter Tryz.func43, Tryz.ntmps43
  go_wp2
  clear hconv
  go_loop [9] (fun i => ∃ k : Nat, k ≤ s.size ∧ i = .int .i64 k ∧ Hid (∀ j, j < k → charOk j ((s.data.toList.getD j 0).toNat : Int) = true)) (fun i => s.size - (intOf i).toNat)
  case atStart => exact ⟨0, Nat.zero_le _, rfl, fun j hj => by omega⟩
  case round =>
    obtain ⟨k, hk, rfl, hok⟩ := hrel
    by_cases hlt : k < s.size
    · obtain ⟨c, hc⟩ : ∃ c : UInt8, s.data.toList.getD k 0 = c := ⟨_, rfl⟩
      have hcell := Lib.bytesWorld_cell w 5 s k hlt
      rw [hc] at hcell
      have hc' := Lib.hid hc
      clear hc
      have hb0 : (0 : Int) ≤ (c.toNat : Int) := by omega
      go_wp2
      all_goals first
        | (exfalso; simp at *; omega)
        | (go_round
           case rel => exact ⟨k + 1, by omega, by go_num, chars_more hok hc' (ok_is _ _ (by simp at *; omega))⟩
           case measure => simp [intOf]; omega)
        | (go_ret; exact ⟨ret_bool (name_not (k := k) hlen hlt hc' (ok_not _ _ (by simp at *; omega))).symm, hB.out⟩)
    · have hkk : k = s.size := by omega
      subst hkk
      by_cases he : s.toList = []
      all_goals
        go_wp2
        go_ret
        refine ⟨ret_bool ?_, hB.out⟩
        have hcs : charsOk s.data.toList = true := charsOk_of _ (fun j hj => hok.out j (by rw [hlen.out] at hj; exact hj))
        rw [name_end _ _ hlen.out hcs, ← ByteArray.toList_eq] <;> simp [he]
end Go.Proofs

set_option linter.unusedSimpArgs false
set_option linter.unusedVariables false
namespace Go.Proofs
open Go.RowKit

def within (n lo hi : Int) : Bool := decide (lo ≤ n) && decide (n ≤ hi)

theorem within_any (n lo hi : Int) (w : World) :
    Calls Tryz.prog 42 #[.int .i64 n, .int .i64 lo, .int .i64 hi] w fun e w' => e = .returned (.bool (within n lo hi)) ∧ w = w' := by
  unfold within
  by_cases h : lo ≤ n <;> by_cases h2 : n ≤ hi
  all_goals
    go_enter Tryz.func42, Tryz.ntmps42
    go_wp2
    go_ret
    simp_all

theorem refWithin_any (n lo hi : Int) (w : World) :
    Calls Tryz.prog 37 #[.int .i64 n, .int .i64 lo, .int .i64 hi] w fun e w' => e = .returned (.bool (within n lo hi)) ∧ w = w' := by
  unfold within
  by_cases h : lo ≤ n <;> by_cases h2 : n ≤ hi
  all_goals
    go_enter Tryz.func37, Tryz.ntmps37
    go_wp2
    go_ret
    simp_all

def unl (b : Bool) (n : Int) : Int := if b then 0 else n
theorem unless_any (b : Bool) (n : Int) (w : World) :
    Calls Tryz.prog 32 #[.bool b, .int .i64 n] w fun e w' => e = .returned (.int .i64 (unl b n)) ∧ w = w' := by
  cases b
  all_goals
    go_enter Tryz.func32, Tryz.ntmps32
    go_wp2
    go_ret
    simp_all [unl]

/-- The first error of a list. -/
def firstE : List Int → Int
  | [] => 0
  | e :: l => if e = 0 then firstE l else e
theorem firstE_drop (es : List Int) : ∀ k, (∀ j, j < k → es.getD j 0 = 0) → firstE es = firstE (es.drop k) := by
  intro k
  induction k generalizing es with
  | zero => intro _; simp
  | succ k ih =>
    intro h
    cases es with
    | nil => simp
    | cons e l =>
      have he : e = 0 := by simpa using h 0 (by omega)
      simp only [firstE, he, if_true, List.drop_succ_cons]
      exact ih l (fun j hj => by simpa using h (j + 1) (by omega))
theorem firstE_at (es : List Int) (k : Nat) (hk : k < es.length) (h : ∀ j, j < k → es.getD j 0 = 0) (hne : es.getD k 0 ≠ 0) : firstE es = es.getD k 0 := by
  rw [firstE_drop es k h, List.drop_eq_getElem_cons hk]
  have : es.getD k 0 = es[k] := by simp [hk]
  simp only [firstE]
  rw [if_neg (by rw [← this]; exact hne), this]
theorem firstE_none (es : List Int) (h : ∀ j, j < es.length → es.getD j 0 = 0) : firstE es = 0 := by
  rw [firstE_drop es es.length h]; simp [firstE]

theorem first_any (es : List Int) (b : Nat) (w : World) (hl : es.length ≤ 100) (hc : ∀ j, j < es.length → w.cell? ⟨b, j, none⟩ = some (.int .i64 (es.getD j 0))) :
    Calls Tryz.prog 31 #[.slice (some ⟨b, 0, none⟩) es.length es.length] w fun e w' => e = .returned (.int .i64 (firstE es)) ∧ w = w' := by
  have hc' := Lib.hid hc
  clear hc
  go_enter Tryz.func31, Tryz.ntmps31
  go_wp2
  go_loop [7] (fun i => ∃ k : Nat, k ≤ es.length ∧ i = .int .i64 k ∧ Hid (∀ j, j < k → es.getD j 0 = 0)) (fun i => es.length - (intOf i).toNat)
  case atStart => exact ⟨0, Nat.zero_le _, rfl, fun j hj => by omega⟩
  case round =>
    obtain ⟨k, hk, rfl, hz⟩ := hrel
    by_cases hlt : k < es.length
    · have hck := hc'.out k hlt
      obtain ⟨v, hv⟩ : ∃ v, es.getD k 0 = v := ⟨_, rfl⟩
      rw [hv] at hck
      have hv' := Lib.hid hv
      clear hv
      by_cases h0 : v = 0
      · have hb : (v != 0) = false := by simp [h0]
        have h0' := Lib.hid h0
        clear h0
        go_wp2
        go_round
        case rel => exact ⟨k + 1, by omega, by go_num, fun j hj => by
          by_cases e : j = k
          · subst e; rw [hv'.out]; exact h0'.out
          · exact hz.out j (by omega)⟩
        case measure => simp [intOf]; omega
      · have hb : (v != 0) = true := by simp [h0]
        go_wp2
        go_ret
        exact ⟨ret_int (by rw [firstE_at es k hlt hz.out (by rw [hv'.out]; exact h0)]; exact hv'.out.symm), rfl⟩
    · go_wp2
      go_ret
      exact ⟨ret_int (firstE_none es (fun j hj => hz.out j (by omega))).symm, rfl⟩

theorem first2 (a b : Int) (w : World) : Calls Tryz.prog 31 #[.slice (some ⟨w.heap.size, 0, none⟩) 2 2] (w.alloc (.cells #[.int .i64 a, .int .i64 b] 31)) fun e w' => e = .returned (.int .i64 (firstE [a, b])) ∧ w.alloc (.cells #[.int .i64 a, .int .i64 b] 31) = w' :=
  first_any [a, b] w.heap.size _ (by simp) (fun j hj => by rw [World.cell?_alloc_at _ _ _ _ rfl]; match j, hj with | 0, _ => rfl | 1, _ => rfl)
theorem first3 (a b c : Int) (w : World) : Calls Tryz.prog 31 #[.slice (some ⟨w.heap.size, 0, none⟩) 3 3] (w.alloc (.cells #[.int .i64 a, .int .i64 b, .int .i64 c] 31)) fun e w' => e = .returned (.int .i64 (firstE [a, b, c])) ∧ w.alloc (.cells #[.int .i64 a, .int .i64 b, .int .i64 c] 31) = w' :=
  first_any [a, b, c] w.heap.size _ (by simp) (fun j hj => by rw [World.cell?_alloc_at _ _ _ _ rfl]; match j, hj with | 0, _ => rfl | 1, _ => rfl | 2, _ => rfl)
theorem first4 (a b c d : Int) (w : World) : Calls Tryz.prog 31 #[.slice (some ⟨w.heap.size, 0, none⟩) 4 4] (w.alloc (.cells #[.int .i64 a, .int .i64 b, .int .i64 c, .int .i64 d] 31)) fun e w' => e = .returned (.int .i64 (firstE [a, b, c, d])) ∧ w.alloc (.cells #[.int .i64 a, .int .i64 b, .int .i64 c, .int .i64 d] 31) = w' :=
  first_any [a, b, c, d] w.heap.size _ (by simp) (fun j hj => by rw [World.cell?_alloc_at _ _ _ _ rfl]; match j, hj with | 0, _ => rfl | 1, _ => rfl | 2, _ => rfl | 3, _ => rfl)
theorem first5 (a b c d f : Int) (w : World) : Calls Tryz.prog 31 #[.slice (some ⟨w.heap.size, 0, none⟩) 5 5] (w.alloc (.cells #[.int .i64 a, .int .i64 b, .int .i64 c, .int .i64 d, .int .i64 f] 31)) fun e w' => e = .returned (.int .i64 (firstE [a, b, c, d, f])) ∧ w.alloc (.cells #[.int .i64 a, .int .i64 b, .int .i64 c, .int .i64 d, .int .i64 f] 31) = w' :=
  first_any [a, b, c, d, f] w.heap.size _ (by simp) (fun j hj => by rw [World.cell?_alloc_at _ _ _ _ rfl]; match j, hj with | 0, _ => rfl | 1, _ => rfl | 2, _ => rfl | 3, _ => rfl | 4, _ => rfl)

def gaugingE (s : List UInt8) (d lo hi : Int) : Int :=
  firstE [unl (nameB s) 4, unl (within d 0 100000 && within lo 0 100000 && within hi 0 100000) 2, unl (decide (lo ≤ hi)) 9]

end Go.Proofs

set_option linter.unusedSimpArgs false
set_option linter.unusedVariables false
namespace Go.Proofs
open Go.RowKit

/-- The slice at 'A' holds the rows 'l', each of 'sz' cells. -/
def At {α : Type} (sz : Nat) (cs : α → List Value) (w : World) (A : Option Addr) (l : List α) : Prop :=
  ∀ k x, l[k]? = some x → ∃ b o, A = some ⟨b, o, none⟩ ∧ b < w.heap.size ∧ ∀ j v, (cs x)[j]? = some v → w.cell? ⟨b, o + k * sz + j, none⟩ = some v
theorem At.below {α : Type} {sz : Nat} {cs : α → List Value} {w w' : World} {A : Option Addr} {l : List α} (h : At sz cs w A l) (hb : Below w.heap.size w w') : At sz cs w' A l := by
  intro k x hx
  obtain ⟨b, o, hA, hlt, hc⟩ := h k x hx
  exact ⟨b, o, hA, Nat.lt_of_lt_of_le hlt hb.size, fun j v hv => (hb.cell (p := ⟨b, o + k * sz + j, none⟩) hlt).trans (hc j v hv)⟩
theorem At.alloc {α : Type} {sz : Nat} {cs : α → List Value} {w : World} {A : Option Addr} {l : List α} (h : At sz cs w A l) (ob : Obj) : At sz cs (w.alloc ob) A l := h.below (new_below _ _)

structure Mv where
  d : Int
  f : ByteArray
  t : ByteArray
  v : Int
def Mv.cs (x : Mv) : List Value := [.int .i64 x.d, .string x.f, .string x.t, .int .i64 x.v]
structure Rd where
  c : ByteArray
  d : Int
  lo : Int
  hi : Int
def Rd.cs (x : Rd) : List Value := [.string x.c, .int .i64 x.d, .int .i64 x.lo, .int .i64 x.hi]

def eqS (a b : ByteArray) : Bool := a.toList == b.toList

def endB (s : ByteArray) : Bool := s.toList.isEmpty || nameB s.data.toList
def moveE (m : Mv) : Int :=
  firstE [unl (within m.d 0 100000) 2, unl (endB m.f && endB m.t) 4, unl (!eqS m.f m.t) 3, unl (within m.v 0 100000) 2]

end Go.Proofs
