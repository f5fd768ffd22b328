import Derived.RowKit
import Derived.Lib.Split
import Derived.Lib.Join
import Derived.Lib.AtoiAll
import Derived.Lib.ItoaNum
import Derived.Lib.Strings
set_option linter.unusedSimpArgs false
set_option linter.unusedVariables false
namespace Go.Proofs
open Go Go.Lib

/-! Texts of gaugings: the plain law. -/
/-- A text, cut at each blank. -/
def cutL : List UInt8 → List (List UInt8)
  | [] => [[]]
  | c :: l => if c = 32 then [] :: cutL l else match cutL l with
    | h :: t => (c :: h) :: t
    | [] => [[c]]
theorem cutL_cons (c : UInt8) (l : List UInt8) : ∃ h t, cutL l = h :: t := by
  cases l with
  | nil => exact ⟨[], [], rfl⟩
  | cons d l =>
    unfold cutL
    by_cases hd : d = 32
    · rw [if_pos hd]; exact ⟨_, _, rfl⟩
    · rw [if_neg hd]
      cases cutL l with
      | nil => exact ⟨_, _, rfl⟩
      | cons h t => exact ⟨_, _, rfl⟩
theorem cutL_none : ∀ (a : List UInt8), (∀ c ∈ a, c ≠ 32) → cutL a = [a]
  | [], _ => rfl
  | c :: a, h => by
    unfold cutL
    rw [if_neg (h c (List.mem_cons_self ..)), cutL_none a (fun d hd => h d (List.mem_cons_of_mem _ hd))]
theorem cutL_hit : ∀ (a b : List UInt8), (∀ c ∈ a, c ≠ 32) → cutL (a ++ 32 :: b) = a :: cutL b
  | [], b, _ => by simp [cutL]
  | c :: a, b, h => by
    rw [List.cons_append, cutL, if_neg (h c (List.mem_cons_self ..)), cutL_hit a b (fun d hd => h d (List.mem_cons_of_mem _ hd))]
theorem occ_blank (s : List UInt8) (i : Nat) : occAt s [32] i = (s[i]? == some 32) := by
  unfold occAt
  cases h : s.drop i with
  | nil =>
    have : s[i]? = none := by
      rw [List.getElem?_eq_none_iff]
      exact List.drop_eq_nil_iff.1 h
    rw [this]
    rfl
  | cons c l =>
    have : s[i]? = some c := by
      rw [← List.head?_drop, h]
      rfl
    rw [this]
    simp only [List.isPrefixOf, Bool.and_true]
    rw [Bool.eq_iff_iff]
    simp only [beq_iff_eq, Option.some.injEq]
    exact ⟨fun e => e.symm, fun e => e.symm⟩
theorem split_cut : ∀ (n : Nat) (s : List UInt8), s.length ≤ n → splitK [32] 0 (count s [32]) s = cutL s := by
  intro n
  induction n with
  | zero =>
    intro s hs
    have : s = [] := List.eq_nil_of_length_eq_zero (by omega)
    subst this
    decide +kernel
  | succ n ih =>
    intro s hs
    rcases index_spec s [32] with ⟨h, hno⟩ | ⟨i, h, hi, hoc, hno⟩
    · rw [count_miss h]
      have hc : ∀ c ∈ s, c ≠ 32 := by
        intro c hcm e
        subst e
        obtain ⟨j, hj⟩ := List.getElem?_of_mem hcm
        have hlt := (List.getElem?_eq_some_iff.1 hj).1
        have := hno j (by omega)
        rw [occ_blank, hj] at this
        simp at this
      rw [cutL_none s hc]
      rfl
    · rw [count_hit (by simp) h, Nat.add_comm, splitK]
      have hm : ¬ (index s [32] == -1) = true := fun e => by have := beq_iff_eq.1 e; omega
      rw [if_neg hm, h]
      rw [occ_blank] at hoc
      have hs32 : s[i]? = some 32 := by simpa using hoc
      have hlt := (List.getElem?_eq_some_iff.1 hs32).1
      have hsplit : s = s.take i ++ 32 :: s.drop (i + 1) := by
        have e1 := List.getElem_cons_drop hlt
        rw [(List.getElem?_eq_some_iff.1 hs32).2] at e1
        rw [e1, List.take_append_drop]
      have hc : ∀ c ∈ s.take i, c ≠ 32 := by
        intro c hcm e
        subst e
        obtain ⟨j, hj⟩ := List.getElem?_of_mem hcm
        have hj2 := (List.getElem?_eq_some_iff.1 hj).1
        rw [List.length_take] at hj2
        rw [List.getElem?_take] at hj
        split at hj
        · have := hno j (by omega)
          rw [occ_blank, hj] at this
          simp at this
        · cases hj
      conv => rhs; rw [hsplit]
      rw [cutL_hit _ _ hc]
      have e1 : ((i : Int)).toNat + 0 = i := by omega
      have e2 : ((i : Int)).toNat + [(32 : UInt8)].length = i + 1 := by simp
      have e3 : i + [(32 : UInt8)].length = i + 1 := rfl
      rw [e1, e2, e3, ih (s.drop (i + 1)) (by rw [List.length_drop]; omega)]

/-! Numerals of at most nine digits. -/
def isDig (c : UInt8) : Bool := decide (48 ≤ c.toNat) && decide (c.toNat ≤ 57)
def valD : Nat → List UInt8 → Nat
  | a, [] => a
  | a, c :: l => valD (10 * a + (c.toNat - 48)) l
def magL (l : List UInt8) : List UInt8 := if l.head? = some 45 then l.tail else l
/-- The number with a text, of at most nine digits, as it is written. -/
def parseN (l : List UInt8) : Option Int :=
  if magL l = [] ∨ 9 < (magL l).length ∨ ((magL l).head? = some 48 ∧ 1 < l.length) then none
  else if (magL l).all isDig then some (if l.head? = some 45 then -(valD 0 (magL l) : Int) else (valD 0 (magL l) : Int)) else none
theorem valD_snoc : ∀ (l : List UInt8) (a : Nat) (c : UInt8), valD a (l ++ [c]) = 10 * valD a l + (c.toNat - 48)
  | [], a, c => rfl
  | d :: l, a, c => by rw [List.cons_append]; unfold valD; exact valD_snoc l _ c
theorem dig_toNat (u : Nat) (h : u < 10) : (UInt8.ofNat (48 + u)).toNat = 48 + u := by
  rw [UInt8.toNat_ofNat']
  omega
theorem decDigits_said : ∀ (u : Nat), decDigits u ≠ [] ∧ (decDigits u).all isDig = true ∧ valD 0 (decDigits u) = u ∧ ((decDigits u).head? = some 48 → u = 0) := by
  intro u
  induction u using Nat.strongRecOn with
  | _ u ih =>
    by_cases h : u < 10
    · rw [decDigits, dif_pos h]
      have e := dig_toNat u h
      refine ⟨by simp, ?_, ?_, ?_⟩
      · simp only [List.all_cons, List.all_nil, Bool.and_true, isDig, e]
        simp
        omega
      · show 10 * 0 + ((UInt8.ofNat (48 + u)).toNat - 48) = u
        rw [e]
        omega
      · intro h2
        simp only [List.head?_cons, Option.some.injEq] at h2
        have e3 : (UInt8.ofNat (48 + u)).toNat = 48 := congrArg UInt8.toNat h2
        omega
    · rw [decDigits, dif_neg h]
      obtain ⟨h1, h2, h3, h4⟩ := ih (u / 10) (by omega)
      have e := dig_toNat (u % 10) (by omega)
      refine ⟨by simp, ?_, ?_, ?_⟩
      · rw [List.all_append, h2, Bool.true_and]
        simp only [List.all_cons, List.all_nil, Bool.and_true, isDig, e]
        simp
        omega
      · rw [valD_snoc, h3, e]
        omega
      · intro h5
        have : (decDigits (u / 10)).head? = some 48 := by
          cases hd : decDigits (u / 10) with
          | nil => exact (h1 hd).elim
          | cons a l => rw [hd] at h5; simpa using h5
        have := h4 this
        omega
theorem dig_not {c : UInt8} (h : isDig c = true) : c ≠ 45 ∧ c ≠ 43 ∧ c ≠ 32 := by
  unfold isDig at h
  simp only [Bool.and_eq_true, decide_eq_true_eq] at h
  refine ⟨?_, ?_, ?_⟩ <;> (intro e; subst e; revert h; decide)
theorem digs_head {l : List UInt8} (h : l.all isDig = true) : ¬ l.head? = some 45 := by
  cases l with
  | nil => simp
  | cons c l =>
    simp only [List.all_cons, Bool.and_eq_true] at h
    intro e
    simp only [List.head?_cons, Option.some.injEq] at e
    exact (dig_not h.1).1 e
theorem magL_itoa (n : Int) : magL (itoa n) = decDigits n.natAbs ∧ ((itoa n).head? = some 45 ↔ n < 0) := by
  obtain ⟨h1, h2, h3, h4⟩ := decDigits_said n.natAbs
  unfold magL itoa
  by_cases hn : n < 0
  · rw [if_pos hn]
    simp [hn]
  · rw [if_neg hn]
    have e : n.toNat = n.natAbs := by omega
    rw [e, if_neg (digs_head h2)]
    exact ⟨rfl, ⟨fun h => (digs_head h2 h).elim, fun h => (hn h).elim⟩⟩
/-- What is written is read. -/
theorem parse_itoa (n : Int) (h9 : (magL (itoa n)).length ≤ 9) : parseN (itoa n) = some n := by
  obtain ⟨e1, e2⟩ := magL_itoa n
  obtain ⟨h1, h2, h3, h4⟩ := decDigits_said n.natAbs
  unfold parseN
  rw [e1] at h9 ⊢
  have hno : ¬ (decDigits n.natAbs = [] ∨ 9 < (decDigits n.natAbs).length ∨ ((decDigits n.natAbs).head? = some 48 ∧ 1 < (itoa n).length)) := by
    rintro (h | h | ⟨h, h'⟩)
    · exact h1 h
    · omega
    · have hz := h4 h
      have : n = 0 := by omega
      subst this
      revert h'
      decide +kernel
  rw [if_neg hno, if_pos h2, h3]
  by_cases hn : n < 0
  · rw [if_pos (e2.2 hn)]
    congr 1
    omega
  · rw [if_neg (fun h => hn (e2.1 h))]
    congr 1
    omega
theorem valD_ge : ∀ (l : List UInt8) (a : Nat), a ≤ valD a l
  | [], a => Nat.le_refl _
  | c :: l, a => by
    unfold valD
    have := valD_ge l (10 * a + (c.toNat - 48))
    omega
theorem valD_pos {c : UInt8} {l : List UInt8} (hc : isDig c = true) (h : ¬ c = 48) : 0 < valD 0 (c :: l) := by
  unfold valD
  have h1 := valD_ge l (10 * 0 + (c.toNat - 48))
  unfold isDig at hc
  simp only [Bool.and_eq_true, decide_eq_true_eq] at hc
  have h2 : c.toNat ≠ 48 := fun e => h (UInt8.toNat_inj.1 e)
  omega
theorem ofNat_dig {c : UInt8} (hc : isDig c = true) : UInt8.ofNat (48 + (c.toNat - 48)) = c := by
  unfold isDig at hc
  simp only [Bool.and_eq_true, decide_eq_true_eq] at hc
  rw [show 48 + (c.toNat - 48) = c.toNat by omega]
  exact UInt8.ofNat_toNat
/-- Digits without a nought ahead are the digits of their value. -/
theorem digits_val : ∀ (n : Nat) (l : List UInt8), l.length ≤ n → l ≠ [] → l.all isDig = true → (l.head? = some 48 → l.length = 1) → decDigits (valD 0 l) = l := by
  intro n
  induction n with
  | zero =>
    intro l h h0 _ _
    exact (h0 (List.eq_nil_of_length_eq_zero (by omega))).elim
  | succ n ih =>
    intro l hl h0 hd hz
    obtain ⟨r, c, rfl⟩ : ∃ r c, l = r ++ [c] := ⟨l.dropLast, l.getLast h0, (List.dropLast_concat_getLast h0).symm⟩
    rw [List.all_append, Bool.and_eq_true] at hd
    obtain ⟨hr, hc⟩ := hd
    simp only [List.all_cons, List.all_nil, Bool.and_true] at hc
    have hcn : c.toNat - 48 < 10 := by
      have := hc
      unfold isDig at this
      simp only [Bool.and_eq_true, decide_eq_true_eq] at this
      omega
    rw [valD_snoc]
    cases r with
    | nil =>
      have e0 : valD 0 [] = 0 := rfl
      have e9 : 10 * valD 0 [] + (c.toNat - 48) < 10 := by rw [e0]; omega
      rw [decDigits, dif_pos e9, List.nil_append]
      have e1 : 48 + (10 * valD 0 [] + (c.toNat - 48)) = 48 + (c.toNat - 48) := by rw [e0]; omega
      rw [e1, ofNat_dig hc]
    | cons a r =>
      have ha : isDig a = true := by
        simp only [List.all_cons, Bool.and_eq_true] at hr
        exact hr.1
      have hna : ¬ a = 48 := by
        intro e
        have := hz (by simp [e])
        simp at this
      have hp := valD_pos (l := r) ha hna
      rw [decDigits, dif_neg (by omega)]
      have e1 : (10 * valD 0 (a :: r) + (c.toNat - 48)) / 10 = valD 0 (a :: r) := by omega
      have e2 : (10 * valD 0 (a :: r) + (c.toNat - 48)) % 10 = c.toNat - 48 := by omega
      rw [e1, e2, ofNat_dig hc, ih (a :: r) (by simp at hl ⊢; omega) (by simp) hr (by intro h; simp at h; exact (hna h).elim)]
theorem parseUint_ok : ∀ (l : List UInt8) (a : Nat), l.all isDig = true → a * 10 ^ l.length + 10 ^ l.length ≤ 10 ^ 18 → parseUint10 a l = .ok (valD a l)
  | [], a, _, _ => rfl
  | c :: l, a, h, hb => by
    simp only [List.all_cons, Bool.and_eq_true] at h
    obtain ⟨hc, hl⟩ := h
    have hc' := hc
    unfold isDig at hc'
    simp only [Bool.and_eq_true, decide_eq_true_eq] at hc'
    have hp : 1 ≤ 10 ^ l.length := Nat.one_le_pow _ _ (by decide)
    rw [List.length_cons, Nat.pow_succ] at hb
    have ha : a * 10 < 10 ^ 18 := by
      have : a * 10 * 1 ≤ a * 10 * 10 ^ l.length := Nat.mul_le_mul_left _ hp
      have e : a * (10 ^ l.length * 10) = a * 10 * 10 ^ l.length := by rw [Nat.mul_comm (10 ^ l.length) 10, Nat.mul_assoc]
      omega
    unfold parseUint10 valD
    rw [if_pos hc', if_neg (by omega), if_neg (by omega), show a * 10 + (c.toNat - 48) = 10 * a + (c.toNat - 48) by omega]
    refine parseUint_ok l _ hl ?_
    have e : (10 * a + (c.toNat - 48)) * 10 ^ l.length + 10 ^ l.length ≤ (10 * a + 9) * 10 ^ l.length + 10 ^ l.length := by
      have : (10 * a + (c.toNat - 48)) * 10 ^ l.length ≤ (10 * a + 9) * 10 ^ l.length := Nat.mul_le_mul_right _ (by omega)
      omega
    have e2 : (10 * a + 9) * 10 ^ l.length + 10 ^ l.length = a * (10 ^ l.length * 10) + 10 ^ l.length * 10 := by
      rw [Nat.add_mul, Nat.mul_comm 10 a, Nat.mul_assoc, Nat.mul_comm (10 ^ l.length) 10]
      omega
    omega
/-- What is read so is read by Atoi, and written so. -/
theorem parseN_said {l : List UInt8} {n : Int} (h : parseN l = some n) : itoa n = l ∧ atoiAll l = .ok n ∧ (magL l).length ≤ 9 := by
  unfold parseN at h
  by_cases h1 : magL l = [] ∨ 9 < (magL l).length ∨ ((magL l).head? = some 48 ∧ 1 < l.length)
  · rw [if_pos h1] at h; cases h
  · rw [if_neg h1] at h
    by_cases h2 : (magL l).all isDig = true
    · rw [if_pos h2] at h
      have hne : magL l ≠ [] := fun e => h1 (.inl e)
      have h9 : (magL l).length ≤ 9 := Nat.le_of_not_lt fun e => h1 (.inr (.inl e))
      have hz : (magL l).head? = some 48 → l.length ≤ 1 := fun e => Nat.le_of_not_lt fun e2 => h1 (.inr (.inr ⟨e, e2⟩))
      have hpar : parseUint10 0 (magL l) = .ok (valD 0 (magL l)) := by
        refine parseUint_ok _ _ h2 ?_
        have : 10 ^ (magL l).length ≤ 10 ^ 18 := Nat.pow_le_pow_right (by decide) (by omega)
        omega
      have hbig : valD 0 (magL l) < 10 ^ 18 := by
        have hgen : ∀ (l : List UInt8) (a k : Nat), l.all isDig = true → a < 10 ^ k → valD a l < 10 ^ (k + l.length) := by
          intro l
          induction l with
          | nil => intro a k _ ha; exact ha
          | cons c l ih =>
            intro a k hl ha
            simp only [List.all_cons, Bool.and_eq_true] at hl
            have hc := hl.1
            unfold isDig at hc
            simp only [Bool.and_eq_true, decide_eq_true_eq] at hc
            unfold valD
            rw [List.length_cons, show k + (l.length + 1) = (k + 1) + l.length by omega]
            refine ih _ _ hl.2 ?_
            rw [Nat.pow_succ]
            omega
        have hv := hgen (magL l) 0 0 h2 (by decide)
        have : 10 ^ (0 + (magL l).length) ≤ 10 ^ 18 := Nat.pow_le_pow_right (by decide) (by omega)
        omega
      have hsmall : (10 : Nat) ^ 18 ≤ 9223372036854775807 := by decide
      by_cases hm : l.head? = some 45
      · obtain ⟨r, rfl⟩ : ∃ r, l = 45 :: r := by
          cases l with
          | nil => cases hm
          | cons c r =>
            simp only [List.head?_cons, Option.some.injEq] at hm
            exact ⟨r, by rw [hm]⟩
        have e : magL (45 :: r) = r := by simp [magL]
        simp only [e] at h h2 hne h9 hz hpar hbig
        rw [if_pos hm] at h
        simp only [Option.some.injEq] at h
        have hr0 : ¬ r.head? = some 48 := by
          intro h0
          have := hz h0
          simp at this
          exact hne this
        have hp : 0 < valD 0 r := by
          cases r with
          | nil => exact (hne rfl).elim
          | cons c r =>
            simp only [List.all_cons, Bool.and_eq_true] at h2
            exact valD_pos h2.1 (by intro e; exact hr0 (by simp [e]))
        refine ⟨?_, ?_, h9⟩
        · unfold itoa
          rw [if_pos (by omega), show n.natAbs = valD 0 r by omega, digits_val _ r (Nat.le_refl _) hne h2 (fun h0 => (hr0 h0).elim)]
        · have e45 : (45 : UInt8).toNat = 45 := rfl
          have hmag : parseMag r = .ok (valD 0 r) := by unfold parseMag; rw [if_neg hne, hpar]
          unfold atoiAll
          simp only [e45, or_true, if_true, hmag]
          rw [if_neg (by simp), if_neg (by omega)]
          rw [h]
      · have e : magL l = l := by simp [magL, hm]
        simp only [e] at h h2 hne h9 hz hpar hbig
        rw [if_neg hm] at h
        simp only [Option.some.injEq] at h
        rw [e]
        have hz1 : l.head? = some 48 → l.length = 1 := by
          intro h0
          have := hz h0
          cases l with
          | nil => cases h0
          | cons c r => simp at this ⊢; exact this
        refine ⟨?_, ?_, h9⟩
        · unfold itoa
          rw [if_neg (by omega), show n.toNat = valD 0 l by omega, digits_val _ l (Nat.le_refl _) hne h2 hz1]
        · cases l with
          | nil => exact (hne rfl).elim
          | cons c r =>
            have hc : isDig c = true := by simp only [List.all_cons, Bool.and_eq_true] at h2; exact h2.1
            have hc' := hc
            unfold isDig at hc'
            simp only [Bool.and_eq_true, decide_eq_true_eq] at hc'
            have hmag : parseMag (c :: r) = .ok (valD 0 (c :: r)) := by unfold parseMag; rw [if_neg (by simp), hpar]
            unfold atoiAll
            have n1 : ¬ (c.toNat = 43 ∨ False) := by simp; omega
            have n2 : ¬ c.toNat = 45 := by omega
            have n3 : ¬ (¬ False ∧ 9223372036854775808 ≤ valD 0 (c :: r)) := by intro q; have := q.2; omega
            simp only [n2]
            rw [if_neg n1, hmag]
            dsimp only
            rw [if_neg n3, if_neg (by simp), if_neg (by simp), h]
    · rw [if_neg h2] at h; cases h
/-- The program's way: Atoi, written again, at most nine digits. -/
theorem parse_way (l : List UInt8) : (∀ n, atoiAll l = .ok n → (itoa n = l ∧ (magL l).length ≤ 9 → parseN l = some n) ∧ (¬ (itoa n = l ∧ (magL l).length ≤ 9) → parseN l = none)) ∧ ((∀ n, atoiAll l ≠ .ok n) → parseN l = none) := by
  refine ⟨fun n hn => ⟨?_, ?_⟩, ?_⟩
  · rintro ⟨h1, h2⟩
    rw [← h1] at h2 ⊢
    exact parse_itoa n h2
  · intro hno
    cases hp : parseN l with
    | none => rfl
    | some m =>
      exfalso
      obtain ⟨a, b, c⟩ := parseN_said hp
      rw [hn] at b
      injection b with b
      subst b
      exact hno ⟨a, c⟩
  · intro hno
    cases hp : parseN l with
    | none => rfl
    | some m => exact (hno m (parseN_said hp).2.1).elim
theorem trim_mag (l : List UInt8) : trimPrefix l [45] = magL l := by
  unfold trimPrefix magL hasPrefix
  cases l with
  | nil => rfl
  | cons c l =>
    by_cases h : c = 45
    · subst h; simp
    · have h' : ¬ (45 : UInt8) = c := fun e => h e.symm
      simp [h, h']
end Go.Proofs
