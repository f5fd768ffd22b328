import Derived.RowKit
import Derived.Test.YtmnjoamkaapjcaaGreatProg
import Derived.WalkKit
import Derived.Handy
import Derived.WalkLawsBesides
import Derived.WalkSpells
import Derived.Lib.ConvBytes
import Derived.Lib.Hide
set_option linter.unusedSimpArgs false
set_option linter.unusedVariables false
namespace Go.Proofs

/-! The fewest that explain it: the plain law. Sets are lists of Bools, the first gauging ahead; 'subs k': all of them, as the numbers fall. -/
def subs : Nat → List (List Bool)
  | 0 => [[]]
  | k + 1 => (subs k).map (true :: ·) ++ (subs k).map (false :: ·)
def ones : List Bool → Nat
  | [] => 0
  | b :: l => (if b then 1 else 0) + ones l
def sel {α : Type} : List α → List Bool → List α
  | x :: l, b :: v => if b then x :: sel l v else sel l v
  | _, _ => []
def combos {α : Type} : List α → Nat → List (List α)
  | _, 0 => [[]]
  | [], _ + 1 => []
  | x :: l, s + 1 => (combos l s).map (x :: ·) ++ combos l (s + 1)
theorem subs_len : ∀ (k : Nat) (v : List Bool), v ∈ subs k → v.length = k
  | 0, v, h => by simp [subs] at h; simp [h]
  | k + 1, v, h => by
    simp only [subs, List.mem_append, List.mem_map] at h
    rcases h with ⟨u, hu, rfl⟩ | ⟨u, hu, rfl⟩ <;> simp [subs_len k u hu]
theorem combos_zero {α : Type} : ∀ (l : List α), ((subs l.length).filter (fun v => ones v == 0)).map (sel l) = [[]]
  | [] => by simp [subs, ones, sel]
  | x :: l => by
    have ih := combos_zero l
    simp only [List.length_cons, subs, List.filter_append, List.map_append, List.filter_map, List.map_map]
    have h1 : (subs l.length).filter ((fun v => ones v == 0) ∘ (true :: ·)) = [] := by
      rw [List.filter_eq_nil_iff]
      intro v _
      simp [ones]
    have h2 : ((fun v => ones v == 0) ∘ (false :: ·)) = (fun v => ones v == 0) := by
      funext v
      simp [ones]
    rw [h1, h2]
    have h3 : (sel (x :: l) ∘ (false :: ·)) = sel l := by
      funext v
      simp [sel]
    rw [h3, ih]
    rfl
theorem combos_eq {α : Type} : ∀ (l : List α) (s : Nat), ((subs l.length).filter (fun v => ones v == s)).map (sel l) = combos l s
  | l, 0 => by rw [combos_zero]; cases l <;> rfl
  | [], s + 1 => by simp [subs, ones, combos]
  | x :: l, s + 1 => by
    simp only [List.length_cons, subs, List.filter_append, List.map_append, List.filter_map, List.map_map, combos]
    have h1 : ((fun v => ones v == s + 1) ∘ (true :: ·)) = (fun v => ones v == s) := by
      funext v
      simp only [Function.comp, ones, if_true]
      rw [Nat.add_comm]
      simp
    have h2 : ((fun v => ones v == s + 1) ∘ (false :: ·)) = (fun v => ones v == s + 1) := by
      funext v
      simp [ones]
    have h3 : (sel (x :: l) ∘ (false :: ·)) = sel l := by
      funext v
      simp [sel]
    have h4 : (sel (x :: l) ∘ (true :: ·)) = ((x :: ·) ∘ sel l) := by
      funext v
      simp [sel]
    rw [h1, h2, h3, h4, combos_eq l (s + 1), ← combos_eq l s, List.map_map]
/-- One step of the search: a set that covers, and has fewer, is the best one. -/
def better (C : List Bool → Bool) (b v : List Bool) : List Bool := if C v && decide (ones v < ones b) then v else b
theorem better_fold (C : List Bool → Bool) : ∀ (l : List (List Bool)) (b : List Bool),
    (l.foldl (better C) b = b ∧ ∀ v ∈ l, C v = true → ones b ≤ ones v) ∨
    (C (l.foldl (better C) b) = true ∧ ones (l.foldl (better C) b) < ones b ∧ (∀ v ∈ l, C v = true → ones (l.foldl (better C) b) ≤ ones v) ∧
      (l.filter (fun v => ones v == ones (l.foldl (better C) b))).find? C = some (l.foldl (better C) b))
  | [], b => .inl ⟨rfl, fun v hv => by simp at hv⟩
  | u :: l, b => by
    rw [List.foldl_cons]
    by_cases hu : (C u && decide (ones u < ones b)) = true
    · have e : better C b u = u := by unfold better; rw [if_pos hu]
      rw [e]
      simp only [Bool.and_eq_true, decide_eq_true_eq] at hu
      obtain ⟨hc, hlt⟩ := hu
      rcases better_fold C l u with ⟨h1, h2⟩ | ⟨h1, h2, h3, h4⟩
      · right
        rw [h1]
        refine ⟨hc, hlt, ?_, ?_⟩
        · intro v hv hcv
          rcases List.mem_cons.1 hv with rfl | hv
          · exact Nat.le_refl _
          · exact h2 v hv hcv
        · rw [List.filter_cons_of_pos (by simp)]
          rw [List.find?_cons_of_pos (by exact hc)]
      · right
        refine ⟨h1, by omega, ?_, ?_⟩
        · intro v hv hcv
          rcases List.mem_cons.1 hv with rfl | hv
          · omega
          · exact h3 v hv hcv
        · rw [List.filter_cons_of_neg (by simp; omega)]
          exact h4
    · have e : better C b u = b := by unfold better; rw [if_neg hu]
      rw [e]
      rcases better_fold C l b with ⟨h1, h2⟩ | ⟨h1, h2, h3, h4⟩
      · left
        refine ⟨h1, ?_⟩
        intro v hv hcv
        rcases List.mem_cons.1 hv with rfl | hv
        · simp only [hcv, Bool.true_and, decide_eq_true_eq] at hu; omega
        · exact h2 v hv hcv
      · right
        refine ⟨h1, h2, ?_, ?_⟩
        · intro v hv hcv
          rcases List.mem_cons.1 hv with rfl | hv
          · simp only [hcv, Bool.true_and, decide_eq_true_eq] at hu; omega
          · exact h3 v hv hcv
        · by_cases hq : ones u = ones (l.foldl (better C) b)
          · rw [List.filter_cons_of_pos (by simp [hq])]
            have hcu : ¬ C u = true := by
              intro hcu
              simp only [hcu, Bool.true_and, decide_eq_true_eq] at hu
              omega
            rw [List.find?_cons_of_neg (by exact hcu)]
            exact h4
          · rw [List.filter_cons_of_neg (by simp [hq])]
            exact h4
theorem subs_head : ∀ (k : Nat), ∃ l, subs k = List.replicate k true :: l
  | 0 => ⟨[], rfl⟩
  | k + 1 => by
    obtain ⟨l, h⟩ := subs_head k
    exact ⟨l.map (true :: ·) ++ (subs k).map (false :: ·), by simp [subs, h, List.replicate_succ]⟩
/-- The best set of all. -/
def bestV (C : List Bool → Bool) (k : Nat) : List Bool := (subs k).foldl (better C) (List.replicate k true)
theorem bestV_said (C : List Bool → Bool) (k : Nat) (hC : C (List.replicate k true) = true) :
    C (bestV C k) = true ∧ (∀ v ∈ subs k, C v = true → ones (bestV C k) ≤ ones v) ∧ ((subs k).filter (fun v => ones v == ones (bestV C k))).find? C = some (bestV C k) := by
  unfold bestV
  rcases better_fold C (subs k) (List.replicate k true) with ⟨h1, h2⟩ | ⟨h1, _, h3, h4⟩
  · rw [h1]
    refine ⟨hC, h2, ?_⟩
    obtain ⟨l, e⟩ := subs_head k
    rw [e, List.filter_cons_of_pos (by simp), List.find?_cons_of_pos (by exact hC)]
  · exact ⟨h1, h3, h4⟩
/-- The first size that has one, from a size on. -/
def firstSize {α : Type} (f : Nat → Option α) : Nat → Nat → Option α
  | 0, _ => none
  | n + 1, s => match f s with
    | some a => some a
    | none => firstSize f n (s + 1)
theorem firstSize_at {α : Type} (f : Nat → Option α) (a : α) (m : Nat) (hm : f m = some a) : ∀ (n s : Nat), s ≤ m → m < s + n → (∀ j, s ≤ j → j < m → f j = none) → firstSize f n s = some a
  | 0, s, h1, h2, _ => by omega
  | n + 1, s, h1, h2, h3 => by
    unfold firstSize
    by_cases e : s = m
    · subst e; rw [hm]
    · rw [h3 s (Nat.le_refl _) (by omega)]
      exact firstSize_at f a m hm n (s + 1) (by omega) (by omega) (fun j hj hj2 => h3 j (by omega) hj2)
theorem ones_le : ∀ (v : List Bool), ones v ≤ v.length
  | [] => by simp [ones]
  | b :: v => by have := ones_le v; cases b <;> simp [ones] <;> omega
theorem find_map {α β : Type} (f : α → β) (C : α → Bool) (D : β → Bool) : ∀ (l : List α), (∀ v ∈ l, D (f v) = C v) → (l.map f).find? D = (l.find? C).map f
  | [], _ => rfl
  | v :: l, h => by
    rw [List.map_cons]
    by_cases hv : C v = true
    · have hv2 : D (f v) = true := by rw [h v (List.mem_cons_self ..)]; exact hv
      rw [List.find?_cons_of_pos hv2, List.find?_cons_of_pos hv]; rfl
    · have hv2 : ¬ D (f v) = true := by rw [h v (List.mem_cons_self ..)]; exact hv
      rw [List.find?_cons_of_neg hv2, List.find?_cons_of_neg hv]
      exact find_map f C D l (fun u hu => h u (List.mem_cons_of_mem _ hu))
/-- THE PLAIN LAW: the best set of the program is the first list of the reference. -/
theorem blame_law {α : Type} (l : List α) (C : List Bool → Bool) (D : List α → Bool) (hD : ∀ v ∈ subs l.length, D (sel l v) = C v) (hC : C (List.replicate l.length true) = true) :
    firstSize (fun s => (combos l s).find? D) (l.length + 1) 0 = some (sel l (bestV C l.length)) := by
  obtain ⟨h1, h2, h3⟩ := bestV_said C l.length hC
  have hmem : bestV C l.length ∈ subs l.length := by
    have := List.mem_of_find?_eq_some h3
    exact (List.mem_filter.1 this).1
  have hlen := subs_len _ _ hmem
  have hle := ones_le (bestV C l.length)
  refine firstSize_at _ _ (ones (bestV C l.length)) ?_ _ _ (Nat.zero_le _) (by omega) ?_
  · rw [← combos_eq, find_map (sel l) C D _ (fun v hv => hD v (List.mem_filter.1 hv).1), h3]
    rfl
  · intro j _ hj
    rw [← combos_eq, find_map (sel l) C D _ (fun v hv => hD v (List.mem_filter.1 hv).1)]
    have : ((subs l.length).filter (fun v => ones v == j)).find? C = none := by
      rw [List.find?_eq_none]
      intro v hv
      obtain ⟨hv, hj2⟩ := List.mem_filter.1 hv
      intro hc
      have := h2 v hv hc
      simp at hj2
      omega
    rw [this]
    rfl
end Go.Proofs

set_option linter.unusedSimpArgs false
set_option linter.unusedVariables false
namespace Go.Proofs
open Go.RowKit

theorem ret_int {k : IntKind} {a b : Int} (h : a = b) : Ending.returned (.int k a) = .returned (.int k b) := by rw [h]

theorem floor_neg (n b : Int) (hb : 0 < b) (h : n.tmod b < 0) : n.tdiv b - 1 = n / b := by
  have h1 := Int.mul_tdiv_add_tmod n b
  have h2 : -b < n.tmod b := by have := Int.lt_tmod_of_pos n hb; omega
  rw [eq_comm]
  have : n = b * (n.tdiv b - 1) + (n.tmod b + b) := by rw [Int.mul_sub]; omega
  rw [this, Int.mul_add_ediv_left _ _ (by omega), Int.ediv_eq_zero_of_lt (by omega) (by omega)]
  rw [← this]; omega
theorem floor_pos (n b : Int) (hb : 0 < b) (h : 0 ≤ n.tmod b) : n.tdiv b = n / b := by
  have h1 := Int.mul_tdiv_add_tmod n b
  have h2 := Int.tmod_lt_of_pos n hb
  rw [eq_comm]
  have : n = b * (n.tdiv b) + (n.tmod b) := by omega
  rw [this, Int.mul_add_ediv_left _ _ (by omega), Int.ediv_eq_zero_of_lt (by omega) (by omega)]
  rw [← this]; omega
theorem ediv_bd (n b M : Int) (hb : 0 < b) (h1 : -M ≤ n) (h2 : n ≤ M) (hM : 0 ≤ M) : -M ≤ n / b ∧ n / b ≤ M := by
  constructor
  · refine (Int.le_ediv_iff_mul_le hb).2 ?_
    have : -M * b ≤ -M * 1 := Int.mul_le_mul_of_nonpos_left (by omega) (by omega)
    omega
  · have h3 : n / b ≤ M / b := Int.ediv_le_ediv hb h2
    have h4 := Int.ediv_le_self b hM
    omega

theorem floor_any (n b : Int) (w : World) (h1 : -1000000000000000000 ≤ n) (h2 : n ≤ 1000000000000000000) (hb : 0 < b) :
    Calls Tryz.prog 73 #[.int .i64 n, .int .i64 b] w fun e w' => e = .returned (.int .i64 (n / b)) ∧ w = w' := by
  have hd := ediv_bd n b _ hb h1 h2 (by omega)
  go_enter Tryz.func73, Tryz.ntmps73
  go_wp2
  all_goals
    go_ret
    refine ⟨ret_int ?_, rfl⟩
  · rw [floor_neg n b hb (by assumption)]; simp only [wrap64]; omega
  · exact floor_pos n b hb (by assumption)
theorem ceil_any (n b : Int) (w : World) (h1 : -1000000000000000000 ≤ n) (h2 : n ≤ 1000000000000000000) (hb : 0 < b) :
    Calls Tryz.prog 74 #[.int .i64 n, .int .i64 b] w fun e w' => e = .returned (.int .i64 (-(-n / b))) ∧ w = w' := by
  have hd := ediv_bd (-n) b _ hb (by omega) (by omega) (by omega : (0:Int) ≤ 1000000000000000000)
  go_enter Tryz.func74, Tryz.ntmps74
  go_wp2_with (go_at_call 73; refine (floor_any _ _ _ (by omega) (by omega) (by omega)).mono ?_; rintro e w' ⟨rfl, rfl⟩)
  go_ret
  exact ⟨rfl, rfl⟩

def letter (c : Int) : Bool := (decide (97 ≤ c) && decide (c ≤ 122)) || (decide (65 ≤ c) && decide (c ≤ 90))
def charOk (i : Nat) (c : Int) : Bool := letter c || (decide (i ≠ 0) && (decide (c = 45) || (decide (48 ≤ c) && decide (c ≤ 57))))
def charsOk (l : List UInt8) : Bool := (List.range l.length).all fun i => charOk i ((l.getD i 0).toNat : Int)
def nameB (l : List UInt8) : Bool := decide (1 ≤ l.length) && decide (l.length ≤ 12) && charsOk l

theorem charsOk_of (l : List UInt8) (h : ∀ j, j < l.length → charOk j ((l.getD j 0).toNat : Int) = true) : charsOk l = true := by
  unfold charsOk; rw [List.all_eq_true]; intro j hj; exact h j (List.mem_range.1 hj)
theorem charsOk_not (l : List UInt8) (j : Nat) (hj : j < l.length) (h : charOk j ((l.getD j 0).toNat : Int) = false) : charsOk l = false := by
  unfold charsOk; rw [List.all_eq_false]; exact ⟨j, List.mem_range.2 hj, by rw [h]; decide⟩

theorem chars_more {l : List UInt8} {k : Nat} {c : UInt8} (h : Hid (∀ j, j < k → charOk j ((l.getD j 0).toNat : Int) = true)) (hc : Hid (l.getD k 0 = c)) (h2 : charOk k (c.toNat : Int) = true) :
    Hid (∀ j, j < k + 1 → charOk j ((l.getD j 0).toNat : Int) = true) := by
  intro j hj
  by_cases e : j = k
  · subst e; rw [hc.out]; exact h2
  · exact h.out j (by omega)
theorem name_not {l : List UInt8} {k n : Nat} {c : UInt8} (hl : Hid (l.length = n)) (hk : k < n) (hc : Hid (l.getD k 0 = c)) (h2 : charOk k (c.toNat : Int) = false) : nameB l = false := by
  unfold nameB; rw [charsOk_not l k (by rw [hl.out]; exact hk) (by rw [hc.out]; exact h2)]; simp
theorem ok_is (k : Nat) (c : Int) (h : (97 ≤ c ∧ c ≤ 122) ∨ (65 ≤ c ∧ c ≤ 90) ∨ (k ≠ 0 ∧ (c = 45 ∨ (48 ≤ c ∧ c ≤ 57)))) : charOk k c = true := by
  unfold charOk letter; simp only [Bool.or_eq_true, Bool.and_eq_true, decide_eq_true_eq]; omega
theorem ok_not (k : Nat) (c : Int) (h : ¬ ((97 ≤ c ∧ c ≤ 122) ∨ (65 ≤ c ∧ c ≤ 90) ∨ (k ≠ 0 ∧ (c = 45 ∨ (48 ≤ c ∧ c ≤ 57))))) : charOk k c = false := by
  rw [← Bool.not_eq_true]; unfold charOk letter; simp only [Bool.or_eq_true, Bool.and_eq_true, decide_eq_true_eq]; omega
theorem name_end (l : List UInt8) (n : Nat) (hl : l.length = n) (hcs : charsOk l = true) : nameB l = (!l.isEmpty && decide ((n : Int) ≤ 12)) := by
  unfold nameB; rw [hcs, Bool.and_true, ← hl]; cases l <;> simp; omega
theorem ret_bool {a b : Bool} (h : a = b) : Ending.returned (.bool a) = .returned (.bool b) := by rw [h]

set_option maxRecDepth 100000 in
set_option maxHeartbeats 1000000 in
theorem isName_any (s : ByteArray) (w : World) (hs : s.size ≤ 9223372036854775807) :
    Calls Tryz.prog 67 #[.string s] w fun e w' => e = .returned (.bool (nameB s.data.toList)) ∧ Below w.heap.size w w' := by
  have hconv := fun W : World => Lib.run_convert_string_bytes (P := Tryz.prog) W 9 142 5 s Tryz.underlying9 Tryz.underlying142 Tryz.underlying5
  have hB : Hid (Below w.heap.size w (Lib.bytesWorld w 5 s)) := ⟨rfl, rfl, rfl, by rw [Lib.bytesWorld_size]; omega, fun k hk => Lib.bytesWorld_at_old w 5 s k hk⟩
  have hlen : Hid (s.data.toList.length = s.size) := by simp [Hid]
  go_enter Tryz.func67, Tryz.ntmps67
  go_wp2
  clear hconv
  go_loop [9] (fun i => ∃ k : Nat, k ≤ s.size ∧ i = .int .i64 k ∧ Hid (∀ j, j < k → charOk j ((s.data.toList.getD j 0).toNat : Int) = true)) (fun i => s.size - (intOf i).toNat)
  case atStart => exact ⟨0, Nat.zero_le _, rfl, fun j hj => by omega⟩
  case round =>
    obtain ⟨k, hk, rfl, hok⟩ := hrel
    by_cases hlt : k < s.size
    · obtain ⟨c, hc⟩ : ∃ c : UInt8, s.data.toList.getD k 0 = c := ⟨_, rfl⟩
      have hcell := Lib.bytesWorld_cell w 5 s k hlt
      rw [hc] at hcell
      have hc' := Lib.hid hc
      clear hc
      have hb0 : (0 : Int) ≤ (c.toNat : Int) := by omega
      go_wp2
      all_goals first
        | (exfalso; simp at *; omega)
        | (go_round
           case rel => exact ⟨k + 1, by omega, by go_num, chars_more hok hc' (ok_is _ _ (by simp at *; omega))⟩
           case measure => simp [intOf]; omega)
        | (go_ret; exact ⟨ret_bool (name_not (k := k) hlen hlt hc' (ok_not _ _ (by simp at *; omega))).symm, hB.out⟩)
    · have hkk : k = s.size := by omega
      subst hkk
      by_cases he : s.toList = []
      all_goals
        go_wp2
        go_ret
        refine ⟨ret_bool ?_, hB.out⟩
        have hcs : charsOk s.data.toList = true := charsOk_of _ (fun j hj => hok.out j (by rw [hlen.out] at hj; exact hj))
        rw [name_end _ _ hlen.out hcs, ← ByteArray.toList_eq] <;> simp [he]
end Go.Proofs
