import Derived.Test.YtpmliaildjomeaaGreatDoorMg1
set_option linter.unusedSimpArgs false
set_option linter.unusedVariables false
namespace Go.Proofs

/-! Determinants, row by row over all sets of columns (plain). -/
/-- How many of the first k numbers are in a set. -/
def pop : Nat → Nat → Nat
  | 0, _ => 0
  | k + 1, s => pop k s + (s >>> k) % 2
/-- One set: the columns from c - 1 on, downwards; what has been summed, and the sign. -/
def minorC (f : Nat → Nat → Int) (M : List Int) (row set : Nat) : Nat → Int → Int → Int
  | 0, acc, _ => acc
  | c + 1, acc, sg => if (set >>> c) % 2 = 0 then minorC f M row set c acc sg
    else minorC f M row set c (if M.getD (set - 2 ^ c) 0 = 0 then acc else acc + sg * f row c * M.getD (set - 2 ^ c) 0) (-sg)
def minorS (f : Nat → Nat → Int) (n : Nat) (M : List Int) (set : Nat) : Int := minorC f M (pop n set - 1) set n 0 1
/-- The minors of the sets up to s. -/
def dpM (f : Nat → Nat → Int) (n : Nat) : Nat → List Int
  | 0 => [1]
  | s + 1 => dpM f n s ++ [minorS f n (dpM f n s) (s + 1)]
def detP (f : Nat → Nat → Int) (n : Nat) : Int := (dpM f n (2 ^ n - 1)).getD (2 ^ n - 1) 0
theorem dpM_len (f : Nat → Nat → Int) (n : Nat) : ∀ s, (dpM f n s).length = s + 1
  | 0 => rfl
  | s + 1 => by simp [dpM, dpM_len f n s]
theorem if_add (m acc x : Int) : (if m = 0 then acc else acc + x * m) = acc + x * m := by
  split
  · rename_i h; rw [h]; omega
  · rfl
/-- Without the test. -/
def minorD (f : Nat → Nat → Int) (M : List Int) (row set : Nat) : Nat → Int → Int → Int
  | 0, acc, _ => acc
  | c + 1, acc, sg => if (set >>> c) % 2 = 0 then minorD f M row set c acc sg
    else minorD f M row set c (acc + sg * f row c * M.getD (set - 2 ^ c) 0) (-sg)
theorem minorC_eq (f : Nat → Nat → Int) (M : List Int) (row set : Nat) : ∀ c acc sg, minorC f M row set c acc sg = minorD f M row set c acc sg
  | 0, _, _ => rfl
  | c + 1, acc, sg => by
    unfold minorC minorD
    rw [minorC_eq f M row set c, minorC_eq f M row set c, if_add]
def dpN (f : Nat → Nat → Int) (n : Nat) : Nat → List Int
  | 0 => [1]
  | s + 1 => dpN f n s ++ [minorD f (dpN f n s) (pop n (s + 1) - 1) (s + 1) n 0 1]
theorem dpM_eq (f : Nat → Nat → Int) (n : Nat) : ∀ s, dpM f n s = dpN f n s
  | 0 => rfl
  | s + 1 => by
    unfold dpM dpN minorS
    rw [dpM_eq f n s, minorC_eq]
def d2 (f : Nat → Nat → Int) (i j : Nat) : Int := f 0 i * f 1 j - f 0 j * f 1 i
def d3 (f : Nat → Nat → Int) (i j k : Nat) : Int := f 2 k * d2 f i j - f 2 j * d2 f i k + f 2 i * d2 f j k
def d4 (f : Nat → Nat → Int) (i j k l : Nat) : Int := f 3 l * d3 f i j k - f 3 k * d3 f i j l + f 3 j * d3 f i k l - f 3 i * d3 f j k l
def d5 (f : Nat → Nat → Int) (i j k l m : Nat) : Int := f 4 m * d4 f i j k l - f 4 l * d4 f i j k m + f 4 k * d4 f i j l m - f 4 j * d4 f i k l m + f 4 i * d4 f j k l m
theorem detP1 (f : Nat → Nat → Int) : detP f 1 = f 0 0 := by
  simp [detP, dpM_eq, dpN, minorD, pop]
theorem detP2 (f : Nat → Nat → Int) : detP f 2 = d2 f 0 1 := by
  simp [detP, dpM_eq, dpN, minorD, pop, d2]
  grind
theorem detP3 (f : Nat → Nat → Int) : detP f 3 = d3 f 0 1 2 := by
  simp [detP, dpM_eq, dpN, minorD, pop, d3, d2]
  grind
theorem detP4 (f : Nat → Nat → Int) : detP f 4 = d4 f 0 1 2 3 := by
  simp [detP, dpM_eq, dpN, minorD, pop, d4, d3, d2]
  grind
theorem detP5 (f : Nat → Nat → Int) : detP f 5 = d5 f 0 1 2 3 4 := by
  simp [detP, dpM_eq, dpN, minorD, pop, d5, d4, d3, d2]
  grind
/-- f with column c replaced by b. -/
def repl (f : Nat → Nat → Int) (b : Nat → Int) (c : Nat) (i j : Nat) : Int := if j = c then b i else f i j
theorem cramer1 (f : Nat → Nat → Int) (b : Nat → Int) : f 0 0 * detP (repl f b 0) 1 = b 0 * detP f 1 := by
  simp [detP1, repl]
  grind
theorem cramer2 (f : Nat → Nat → Int) (b : Nat → Int) (i : Nat) (hi : i < 2) : f i 0 * detP (repl f b 0) 2 + f i 1 * detP (repl f b 1) 2 = b i * detP f 2 := by
  simp [detP2, repl, d2]
  rcases i with _ | _ | i <;> first | grind | omega
theorem cramer3 (f : Nat → Nat → Int) (b : Nat → Int) (i : Nat) (hi : i < 3) : f i 0 * detP (repl f b 0) 3 + f i 1 * detP (repl f b 1) 3 + f i 2 * detP (repl f b 2) 3 = b i * detP f 3 := by
  simp [detP3, repl, d3, d2]
  rcases i with _ | _ | _ | i <;> first | grind | omega
theorem cramer4 (f : Nat → Nat → Int) (b : Nat → Int) (i : Nat) (hi : i < 4) : f i 0 * detP (repl f b 0) 4 + f i 1 * detP (repl f b 1) 4 + f i 2 * detP (repl f b 2) 4 + f i 3 * detP (repl f b 3) 4 = b i * detP f 4 := by
  simp [detP4, repl, d4, d3, d2]
  rcases i with _ | _ | _ | _ | i <;> first | grind | omega
theorem cramer5 (f : Nat → Nat → Int) (b : Nat → Int) (i : Nat) (hi : i < 5) : f i 0 * detP (repl f b 0) 5 + f i 1 * detP (repl f b 1) 5 + f i 2 * detP (repl f b 2) 5 + f i 3 * detP (repl f b 3) 5 + f i 4 * detP (repl f b 4) 5 = b i * detP f 5 := by
  simp [detP5, repl, d5, d4, d3, d2]
  rcases i with _ | _ | _ | _ | _ | i <;> first | grind | omega
end Go.Proofs

set_option linter.unusedSimpArgs false
set_option linter.unusedVariables false
namespace Go.Proofs
open Go.RowKit

/-- How many bits of a number are set. -/
def pcn : Nat → Nat → Nat
  | 0, _ => 0
  | f + 1, n => n % 2 + pcn f (n / 2)
def o1 (x : Int) : Int := IntKind.u64.wrap (bits .and .u64 (x / 2) 6148914691236517205 + bits .and .u64 x 6148914691236517205)
def o2 (x : Int) : Int := IntKind.u64.wrap (bits .and .u64 (x / 4) 3689348814741910323 + bits .and .u64 x 3689348814741910323)
def o3 (x : Int) : Int := bits .and .u64 (IntKind.u64.wrap (x / 16 + x)) 1085102592571150095
def o4 (x : Int) : Int := IntKind.u64.wrap (x + x / 256)
def o5 (x : Int) : Int := IntKind.u64.wrap (x + x / 65536)
def o6 (x : Int) : Int := IntKind.u64.wrap (x + x / 4294967296)
def onesF (x : Int) : Int := bits .and .i64 (wrap64 (o6 (o5 (o4 (o3 (o2 (o1 x))))))) 127
theorem onesF_eq : ∀ n ∈ List.range 256, onesF (n : Int) = ((pcn 8 n : Nat) : Int) := by decide +kernel
theorem ones64_any (n : Nat) (hn : n < 256) (w : World) : Calls Tryz.prog 152 #[.int .u64 n] w fun e w' => e = .returned (.int .i64 (pcn 8 n)) ∧ w = w' := by
  have h := Lib.hid (onesF_eq n (List.mem_range.2 hn))
  go_enter Tryz.func152, Tryz.ntmps152
  go_wp2
  go_ret
  exact ⟨ret_int h.out, rfl⟩
theorem ones_any (n : Nat) (hn : n < 256) (w : World) : Calls Tryz.prog 141 #[.int .u64 n] w fun e w' => e = .returned (.int .i64 (pcn 8 n)) ∧ w = w' := by
  go_enter Tryz.func141, Tryz.ntmps141
  go_wp2_with (go_at_call 152; refine (ones64_any n hn _).mono ?_; rintro e w' ⟨rfl, rfl⟩)
  go_ret
  exact ⟨rfl, rfl⟩
theorem pop_pcn : ∀ n ∈ List.range 6, ∀ s ∈ List.range (2 ^ n), pop n s = pcn 8 s := by decide +kernel
end Go.Proofs

set_option linter.unusedSimpArgs false
set_option linter.unusedVariables false
namespace Go.Proofs

/-! Choices of numbers in lexicographical order. -/
/-- All ascending lists of k numbers from a on, below a + len. -/
def cmb : Nat → Nat → Nat → List (List Nat)
  | _, _, 0 => [[]]
  | _, 0, _ + 1 => []
  | a, len + 1, k + 1 => (cmb (a + 1) len k).map (a :: ·) ++ cmb (a + 1) len (k + 1)
/-- The next choice: m is the greatest value of the first number. -/
def nxtC : Nat → List Nat → Option (List Nat)
  | _, [] => none
  | m, x :: t => match nxtC (m + 1) t with
    | some t' => some (x :: t')
    | none => if x = m then none else some (List.range' (x + 1) (t.length + 1))
theorem cmb_nil : ∀ (a len k : Nat), len < k → cmb a len k = []
  | _, _, 0, h => by omega
  | _, 0, _ + 1, _ => rfl
  | a, len + 1, k + 1, h => by
    simp only [cmb]
    rw [cmb_nil (a + 1) len k (by omega), cmb_nil (a + 1) len (k + 1) (by omega)]
    rfl
theorem cmb_first : ∀ (a len k : Nat), k ≤ len → (cmb a len k)[0]? = some (List.range' a k)
  | _, _, 0, _ => by simp [cmb]
  | _, 0, k + 1, h => by omega
  | a, len + 1, k + 1, h => by
    have := cmb_first (a + 1) len k (by omega)
    simp only [cmb]
    rw [List.getElem?_append_left (by rw [List.length_map]; exact (List.getElem?_eq_some_iff.1 this).1), List.getElem?_map, this]
    rfl
theorem cmb_len : ∀ (a len k : Nat), ∀ l ∈ cmb a len k, l.length = k
  | _, _, 0, l, h => by simp [cmb] at h; simp [h]
  | _, 0, k + 1, l, h => by cases h
  | a, len + 1, k + 1, l, h => by
    simp only [cmb, List.mem_append, List.mem_map] at h
    rcases h with ⟨t, ht, rfl⟩ | h
    · rw [List.length_cons, cmb_len (a + 1) len k t ht]
    · exact cmb_len (a + 1) len (k + 1) l h
theorem cmb_next : ∀ (a len k m : Nat), m + k = a + len → ∀ i l, (cmb a len k)[i]? = some l → nxtC m l = (cmb a len k)[i + 1]?
  | a, len, 0, m, _, i, l, h => by
    simp only [cmb] at h ⊢
    cases i with
    | zero => simp at h; subst h; rfl
    | succ i => simp at h
  | _, 0, k + 1, m, _, i, l, h => by simp [cmb] at h
  | a, len + 1, k + 1, m, hm, i, l, h => by
    have hl1 := cmb_len (a + 1) len k
    simp only [cmb] at h ⊢
    by_cases hi : i < (cmb (a + 1) len k).length
    · rw [List.getElem?_append_left (by rw [List.length_map]; exact hi), List.getElem?_map] at h
      obtain ⟨t, ht, rfl⟩ := Option.map_eq_some_iff.1 h
      have ih := cmb_next (a + 1) len k (m + 1) (by omega) i t ht
      have htl : t.length = k := hl1 t (List.mem_of_getElem? ht)
      unfold nxtC
      rw [ih]
      cases hn : (cmb (a + 1) len k)[i + 1]? with
      | some t' =>
        rw [List.getElem?_append_left (by rw [List.length_map]; exact (List.getElem?_eq_some_iff.1 hn).1), List.getElem?_map, hn]
        rfl
      | none =>
        have hi2 := List.getElem?_eq_none_iff.1 hn
        rw [List.getElem?_append_right (by rw [List.length_map]; exact hi2), List.length_map, show i + 1 - (cmb (a + 1) len k).length = 0 by omega]
        by_cases ham : a = m
        · rw [if_pos ham, cmb_nil (a + 1) len (k + 1) (by omega)]
          rfl
        · have hk : k + 1 ≤ len := by
            rcases Nat.lt_or_ge len k with h1 | h1
            · rw [cmb_nil (a + 1) len k h1] at hi; cases hi
            · omega
          rw [if_neg ham, cmb_first (a + 1) len (k + 1) hk, htl]
    · rw [List.getElem?_append_right (by rw [List.length_map]; omega), List.length_map] at h
      rw [List.getElem?_append_right (by rw [List.length_map]; omega), List.length_map, show i + 1 - (cmb (a + 1) len k).length = (i - (cmb (a + 1) len k).length) + 1 by omega]
      exact cmb_next (a + 1) len (k + 1) m (by omega) _ l h
/-- Ascending, from a on, below b. -/
def Asc (a b : Nat) : List Nat → Prop
  | [] => True
  | x :: t => a ≤ x ∧ x < b ∧ Asc (x + 1) b t
theorem Asc.mono {b : Nat} : ∀ {l : List Nat} {a a' : Nat}, a' ≤ a → Asc a b l → Asc a' b l
  | [], _, _, _, _ => trivial
  | _ :: _, _, _, h, hl => ⟨Nat.le_trans h hl.1, hl.2⟩
theorem Asc.lt {b : Nat} : ∀ {l : List Nat} {a : Nat}, Asc a b l → ∀ x ∈ l, a ≤ x ∧ x < b
  | [], _, _, _, h => by cases h
  | y :: t, a, hl, x, h => by
    rcases List.mem_cons.1 h with rfl | h
    · exact ⟨hl.1, hl.2.1⟩
    · have := Asc.lt hl.2.2 x h
      have := hl.1
      exact ⟨by omega, by omega⟩
theorem cmb_asc : ∀ (a len k : Nat), ∀ l ∈ cmb a len k, Asc a (a + len) l
  | _, _, 0, l, h => by simp [cmb] at h; subst h; trivial
  | _, 0, k + 1, l, h => by cases h
  | a, len + 1, k + 1, l, h => by
    simp only [cmb, List.mem_append, List.mem_map] at h
    rcases h with ⟨t, ht, rfl⟩ | h
    · have := cmb_asc (a + 1) len k t ht
      rw [show a + 1 + len = a + (len + 1) by omega] at this
      exact ⟨Nat.le_refl _, by omega, this⟩
    · have := cmb_asc (a + 1) len (k + 1) l h
      rw [show a + 1 + len = a + (len + 1) by omega] at this
      exact this.mono (by omega)
theorem mem_cmb : ∀ (a len : Nat) (l : List Nat), Asc a (a + len) l → l ∈ cmb a len l.length
  | a, len, [], _ => by cases len <;> simp [cmb]
  | a, 0, x :: t, h => by have := h.1; have := h.2.1; omega
  | a, len + 1, x :: t, h => by
    rw [List.length_cons]
    simp only [cmb, List.mem_append, List.mem_map]
    by_cases hx : x = a
    · subst hx
      exact .inl ⟨t, mem_cmb (x + 1) len t (by have := h.2.2; rwa [show x + (len + 1) = x + 1 + len by omega] at this), rfl⟩
    · right
      have := mem_cmb (a + 1) len (x :: t) ⟨by have := h.1; omega, by have := h.2.1; omega, by have := h.2.2; rwa [show a + (len + 1) = a + 1 + len by omega] at this⟩
      rwa [List.length_cons] at this
/-- As the code finds it: the last number that is not at its greatest. -/
theorem nxtC_none : ∀ (m : Nat) (l : List Nat), (∀ i x, l[i]? = some x → x = m + i) → nxtC m l = none
  | _, [], _ => rfl
  | m, x :: t, h => by
    unfold nxtC
    rw [nxtC_none (m + 1) t (fun i y hy => by have := h (i + 1) y hy; omega)]
    exact if_pos (h 0 x rfl)
theorem nxtC_some : ∀ (m : Nat) (l : List Nat) (j x : Nat), l[j]? = some x → x ≠ m + j → (∀ i y, j < i → l[i]? = some y → y = m + i) → nxtC m l = some (l.take j ++ List.range' (x + 1) (l.length - j))
  | _, [], j, x, h, _, _ => by simp at h
  | m, y :: t, 0, x, h, hx, hl => by
    simp at h
    subst h
    unfold nxtC
    rw [nxtC_none (m + 1) t (fun i z hz => by have := hl (i + 1) z (by omega) hz; omega)]
    simp only
    rw [if_neg (by simpa using hx)]
    simp
  | m, y :: t, j + 1, x, h, hx, hl => by
    unfold nxtC
    rw [nxtC_some (m + 1) t j x (by simpa using h) (by omega) (fun i z hi hz => by have := hl (i + 1) z (by omega) (by simpa using hz); omega)]
    simp
end Go.Proofs
