import Derived.Test.YtpmliaildjomeaaGreatDoorMg2
set_option linter.unusedSimpArgs false
set_option linter.unusedVariables false
namespace Go.Proofs

/-! The search for a basis (plain). -/
abbrev Ex := List Int × Int
def entR (r : List (List Int)) (i j : Nat) : Int := (r.getD i []).getD j 0
def colF (r : List (List Int)) (inst : Option Nat) (i c : Nat) : Int := entR r i (if inst = some c then r.length else c)
def detL (r : List (List Int)) (inst : Option Nat) : Int := detP (colF r inst) r.length
def sgnI (d : Int) : Int := if d < 0 then -1 else 1
def solL (r : List (List Int)) : Option (List Int × Int) :=
  if detL r none = 0 then none else some ((List.range r.length).map fun i => sgnI (detL r none) * detL r (some i), sgnI (detL r none) * detL r none)
def dotL : List Int → List Int → Int
  | a :: x, b :: y => a * b + dotL x y
  | _, _ => 0
def putsL : List Ex → List Int → Nat → Int
  | x :: es, w :: W, k => w * x.1.getD k 0 + putsL es W k
  | _, _, _ => 0
def spentL : List Ex → List Int → Int
  | x :: es, w :: W => w * x.2 + spentL es W
  | _, _ => 0
def gcdL (g : Nat) : List Int → Nat
  | [] => g
  | n :: l => gcdL (Nat.gcd g n.natAbs) l
def zerosL (np : Nat) (l : List Nat) : List Nat := l.filter (· < np)
def tightL (np : Nat) (l : List Nat) : List Nat := (l.filter (np ≤ ·)).map (· - np)
def unitL (n i : Nat) : List Int := (List.range n).map fun j => if j = i then 1 else 0
def mixRows (np : Nat) (es : List Ex) (z t : List Nat) : List (List Int) :=
  List.replicate (np + 1) 1 :: (z.map (fun i => unitL (np + 1) i) ++ t.map fun i => (es.getD i default).1 ++ [(es.getD i default).2])
def mixLP (np : Nat) (es : List Ex) (z t : List Nat) : Option (List Int × Int) :=
  match solL (mixRows np es z t) with
  | none => none
  | some (l, den) =>
    if l.any (· < 0) then none
    else if es.any (fun x => !decide (dotL x.1 l ≤ x.2 * den)) then none
    else some (l.map (· / (gcdL 0 (den :: l) : Int)), den / (gcdL 0 (den :: l) : Int))
def proofRow (es : List Ex) (t : List Nat) (k : Nat) (w : Int) : List Int := 1 :: (t.map (fun i => -((es.getD i default).1.getD k 0)) ++ [w])
def proofRows (es : List Ex) (z t : List Nat) : Nat → List Int → List (List Int)
  | _, [] => []
  | k, w :: ws => if k ∈ z then proofRows es z t (k + 1) ws else proofRow es t k w :: proofRows es z t (k + 1) ws
/-- The weights: those of the tight entries out of a solution. -/
def putW (l : List Int) : Nat → List Nat → List Int → List Int
  | _, [], W => W
  | k, i :: t, W => putW l (k + 1) t (W.set i (l.getD (k + 1) 0))
def levOk (es : List Ex) (den lev : Int) (W : List Int) : Nat → List Int → Bool
  | _, [] => true
  | k, w :: ws => decide (lev ≤ w * den + putsL es W k) && levOk es den lev W (k + 1) ws
structure Prf where
  den : Int
  lev : Int
  W : List Int
deriving Inhabited
def proofL (es : List Ex) (ws : List Int) (z t : List Nat) : Option Prf :=
  match solL (proofRows es z t 0 ws) with
  | none => none
  | some (l, den) =>
    if (List.range t.length).any (fun k => l.getD (k + 1) 0 < 0) then none
    else
      let W := putW l 0 t (List.replicate es.length 0)
      if levOk es den (l.getD 0 0) W 0 ws then
        let g : Int := (gcdL 0 (den :: l.getD 0 0 :: W) : Int)
        some { den := den / g, lev := l.getD 0 0 / g, W := W.map (· / g) }
      else none
def solvedAt (np : Nat) (es : List Ex) (ws : List Int) (l : List Nat) : Option (List Int × Int × Prf) :=
  match proofL es ws (zerosL np l) (tightL np l) with
  | none => none
  | some p => match mixLP np es (zerosL np l) (tightL np l) with
    | none => none
    | some (m, d) => some (m, d, p)
def solvedL (np : Nat) (es : List Ex) (ws : List Int) : Option (List Int × Int × Prf) := (cmb 0 (np + es.length) (np - 1)).findSome? (solvedAt np es ws)

/-! ### Cramer -/
theorem cramer (f : Nat → Nat → Int) (b : Nat → Int) (n : Nat) (hn : n ≤ 5) (i : Nat) (hi : i < n) : ((List.range n).map fun c => f i c * detP (repl f b c) n).sum = b i * detP f n := by
  rcases n with _ | _ | _ | _ | _ | _ | n
  · omega
  · obtain rfl : i = 0 := by omega
    simpa using cramer1 f b
  · simpa [List.range_succ] using cramer2 f b i hi
  · simpa [List.range_succ, Int.add_assoc] using cramer3 f b i hi
  · simpa [List.range_succ, Int.add_assoc] using cramer4 f b i hi
  · simpa [List.range_succ, Int.add_assoc] using cramer5 f b i hi
  · omega
theorem colF_repl (r : List (List Int)) (c : Nat) : colF r (some c) = repl (colF r none) (fun i => entR r i r.length) c := by
  funext i j
  unfold colF repl
  by_cases h : j = c
  · subst h; simp
  · have : ¬ (c = j) := fun e => h e.symm
    simp [this, h]
theorem dotL_range (row : List Int) (g : Nat → Int) : ∀ (n : Nat) (row : List Int) (g : Nat → Int), n ≤ row.length → dotL row ((List.range n).map g) = ((List.range n).map fun c => row.getD c 0 * g c).sum
  | 0, row, g, _ => by cases row <;> simp [dotL]
  | n + 1, [], g, h => by simp at h
  | n + 1, x :: row, g, h => by
    rw [List.range_succ_eq_map]
    simp only [List.map_cons, List.map_map, dotL, List.sum_cons, List.getD_cons_zero]
    have := dotL_range row g n row (g ∘ Nat.succ) (by simpa using h)
    rw [show g ∘ Nat.succ = g ∘ Nat.succ from rfl] at this
    rw [this]
    rfl
/-- A solution solves: each row, but for its last number, times the unknowns. -/
theorem solL_row {r : List (List Int)} {l : List Int} {den : Int} (h : solL r = some (l, den)) (hn : r.length ≤ 5) (hr : ∀ row ∈ r, row.length = r.length + 1) :
    0 < den ∧ l.length = r.length ∧ ∀ row ∈ r, dotL row l = row.getD r.length 0 * den := by
  unfold solL at h
  split at h
  · cases h
  rename_i hd
  obtain ⟨rfl, rfl⟩ : _ ∧ _ := by simpa using h
  refine ⟨?_, by simp, fun row hrow => ?_⟩
  · unfold sgnI
    split <;> omega
  · obtain ⟨i, hi, rfl⟩ := List.getElem_of_mem hrow
    have hc := cramer (colF r none) (fun i => entR r i r.length) r.length hn i hi
    rw [dotL_range [] (fun _ => 0) _ _ _ (by rw [hr _ hrow]; omega)]
    have e1 : ∀ c, (colF r none i c) = r[i].getD c 0 := fun c => by simp [colF, entR, List.getD_eq_getElem?_getD, List.getElem?_eq_getElem hi]
    have e2 : entR r i r.length = r[i].getD r.length 0 := by simp [entR, List.getD_eq_getElem?_getD, List.getElem?_eq_getElem hi]
    have e3 : ∀ c, detP (repl (colF r none) (fun i => entR r i r.length) c) r.length = detL r (some c) := fun c => by unfold detL; rw [colF_repl]
    simp only [e1, e2, e3] at hc
    have : ((List.range r.length).map fun c => r[i].getD c 0 * (sgnI (detL r none) * detL r (some c))).sum = sgnI (detL r none) * ((List.range r.length).map fun c => r[i].getD c 0 * detL r (some c)).sum := by
      generalize List.range r.length = L
      induction L with
      | nil => simp
      | cons x L ih => simp only [List.map_cons, List.sum_cons, ih]; grind
    rw [this, hc]
    show sgnI _ * (_ * detL r none) = _
    grind
end Go.Proofs

set_option linter.unusedSimpArgs false
set_option linter.unusedVariables false
namespace Go.Proofs

/-! Laws of mixes and of proofs (plain). -/
def wsum : List Int → (Nat → Int) → Int
  | [], _ => 0
  | x :: m, f => x * f 0 + wsum m fun k => f (k + 1)
theorem wsum_add (m : List Int) (f g : Nat → Int) : wsum m (fun k => f k + g k) = wsum m f + wsum m g := by
  induction m generalizing f g with
  | nil => rfl
  | cons x m ih => simp only [wsum]; rw [ih (fun k => f (k + 1)) fun k => g (k + 1)]; grind
theorem wsum_mul (m : List Int) (c : Int) (f : Nat → Int) : wsum m (fun k => c * f k) = c * wsum m f := by
  induction m generalizing f with
  | nil => simp [wsum]
  | cons x m ih => simp only [wsum]; rw [ih fun k => f (k + 1)]; grind
theorem wsum_mulr (m : List Int) (c : Int) (f : Nat → Int) : wsum m (fun k => f k * c) = wsum m f * c := by
  rw [Int.mul_comm, ← wsum_mul]
  congr 1
  funext k
  exact Int.mul_comm _ _
theorem wsum_const (m : List Int) (c : Int) : wsum m (fun _ => c) = c * m.sum := by
  induction m with
  | nil => simp [wsum]
  | cons x m ih => simp only [wsum, List.sum_cons]; rw [ih]; grind
theorem wsum_zero (m : List Int) : wsum m (fun _ => 0) = 0 := by rw [wsum_const]; simp
theorem wsum_le {m : List Int} (hm : ∀ x ∈ m, 0 ≤ x) {f g : Nat → Int} (h : ∀ k, k < m.length → f k ≤ g k) : wsum m f ≤ wsum m g := by
  induction m generalizing f g with
  | nil => exact Int.le_refl _
  | cons x m ih =>
    simp only [wsum]
    have h1 := Int.mul_le_mul_of_nonneg_left (h 0 (by simp)) (hm x (by simp))
    have h2 := ih (fun y hy => hm y (by simp [hy])) (f := fun k => f (k + 1)) (g := fun k => g (k + 1)) fun k hk => h (k + 1) (by simpa using hk)
    omega
theorem wsum_congr {m : List Int} {f g : Nat → Int} (h : ∀ k x, m[k]? = some x → x ≠ 0 → f k = g k) : wsum m f = wsum m g := by
  induction m generalizing f g with
  | nil => rfl
  | cons x m ih =>
    simp only [wsum]
    rw [ih (f := fun k => f (k + 1)) (g := fun k => g (k + 1)) fun k y hy => h (k + 1) y (by simpa using hy)]
    by_cases hx : x = 0
    · rw [hx]; simp
    · rw [h 0 x rfl hx]
theorem dotL_wsum : ∀ (a m : List Int), m.length ≤ a.length → dotL a m = wsum m fun k => a.getD k 0
  | [], [], _ => rfl
  | _ :: _, [], _ => by simp [dotL, wsum]
  | [], _ :: _, h => by simp at h
  | a :: ar, x :: m, h => by
    simp only [dotL, wsum, List.getD_cons_zero, List.getD_cons_succ]
    rw [dotL_wsum ar m (by simpa using h)]
    grind
theorem dotL_app (a b m : List Int) (h : m.length = a.length) : dotL (a ++ b) m = dotL a m := by
  induction a generalizing m with
  | nil =>
    have : m = [] := List.eq_nil_of_length_eq_zero (by simpa using h)
    subst this
    cases b <;> simp [dotL]
  | cons x a ih =>
    cases m with
    | nil => simp at h
    | cons y m => simp only [List.cons_append, dotL]; rw [ih m (by simpa using h)]
theorem dotL_scale (g : Int) : ∀ (a m : List Int), dotL a (m.map (g * ·)) = g * dotL a m
  | [], _ => by simp [dotL]
  | _ :: _, [] => by simp [dotL]
  | a :: ar, x :: m => by simp only [List.map_cons, dotL]; rw [dotL_scale g ar m]; grind
theorem putsL_scale (g : Int) : ∀ (es : List Ex) (W : List Int) (k : Nat), putsL es (W.map (g * ·)) k = g * putsL es W k
  | [], _, _ => by simp [putsL]
  | _ :: _, [], _ => by simp [putsL]
  | a :: ar, x :: m, k => by simp only [List.map_cons, putsL]; rw [putsL_scale g ar m k]; grind
theorem spentL_scale (g : Int) : ∀ (es : List Ex) (W : List Int), spentL es (W.map (g * ·)) = g * spentL es W
  | [], _ => by simp [spentL]
  | _ :: _, [] => by simp [spentL]
  | a :: ar, x :: m => by simp only [List.map_cons, spentL]; rw [spentL_scale g ar m]; grind
/-- All that weights put on a mix. -/
def useL : List Ex → List Int → List Int → Int
  | x :: es, w :: W, m => w * dotL x.1 m + useL es W m
  | _, _, _ => 0
theorem wsum_puts (m : List Int) : ∀ (es : List Ex) (W : List Int), (∀ x ∈ es, m.length ≤ x.1.length) → wsum m (putsL es W) = useL es W m
  | [], W, _ => by
    have : putsL [] W = fun _ => 0 := by funext k; simp [putsL]
    rw [this, wsum_zero]; simp [useL]
  | x :: es, [], _ => by
    have : putsL (x :: es) [] = fun _ => 0 := by funext k; simp [putsL]
    rw [this, wsum_zero]; simp [useL]
  | x :: es, w :: W, h => by
    have : putsL (x :: es) (w :: W) = fun k => w * x.1.getD k 0 + putsL es W k := by funext k; simp [putsL]
    rw [this, wsum_add, wsum_mul, wsum_puts m es W fun y hy => h y (by simp [hy]), ← dotL_wsum _ _ (h x (by simp))]
    rfl
theorem useL_le {m : List Int} {d : Int} : ∀ (es : List Ex) (W : List Int), (∀ w ∈ W, 0 ≤ w) → (∀ (i : Nat) (x : Ex) (w : Int), es[i]? = some x → W[i]? = some w → 0 < w → dotL x.1 m ≤ x.2 * d) → useL es W m ≤ spentL es W * d
  | [], _, _, _ => by simp [useL, spentL]
  | _ :: _, [], _, _ => by simp [useL, spentL]
  | x :: es, w :: W, hw, h => by
    have h1 := useL_le es W (fun v hv => hw v (by simp [hv])) fun i y v hy hv => h (i + 1) y v (by simpa using hy) (by simpa using hv)
    simp only [useL, spentL]
    have h0 := hw w (by simp)
    have : w * dotL x.1 m ≤ w * (x.2 * d) := by
      by_cases hz : w = 0
      · rw [hz]; simp
      · exact Int.mul_le_mul_of_nonneg_left (h 0 x w rfl rfl (by omega)) h0
    grind
theorem useL_eq {m : List Int} {d : Int} : ∀ (es : List Ex) (W : List Int), (∀ (i : Nat) (x : Ex) (w : Int), es[i]? = some x → W[i]? = some w → w ≠ 0 → dotL x.1 m = x.2 * d) → useL es W m = spentL es W * d
  | [], _, _ => by simp [useL, spentL]
  | _ :: _, [], _ => by simp [useL, spentL]
  | x :: es, w :: W, h => by
    have h1 := useL_eq es W fun i y v hy hv => h (i + 1) y v (by simpa using hy) (by simpa using hv)
    simp only [useL, spentL]
    by_cases hz : w = 0
    · rw [hz, h1]; simp
    · rw [h 0 x w rfl rfl hz, h1]; grind
/-- WEAK DUALITY: no mix has a lesser value than what weights prove. -/
theorem weak {es : List Ex} {ws W m : List Int} {den lev d : Int} (hes : ∀ x ∈ es, x.1.length = m.length) (hws : ws.length = m.length) (hm : ∀ x ∈ m, 0 ≤ x) (hsum : m.sum = d) (hW : ∀ w ∈ W, 0 ≤ w)
    (hlev : ∀ k, k < m.length → lev ≤ ws.getD k 0 * den + putsL es W k) (hper : ∀ (i : Nat) (x : Ex) (w : Int), es[i]? = some x → W[i]? = some w → 0 < w → dotL x.1 m ≤ x.2 * d) : (lev - spentL es W) * d ≤ dotL ws m * den := by
  have h1 := wsum_le hm hlev
  rw [wsum_const, wsum_add, wsum_mulr, ← dotL_wsum _ _ (by omega), hsum, wsum_puts _ _ _ fun x hx => by rw [hes x hx]; exact Nat.le_refl _] at h1
  have h2 := useL_le es W hW hper
  grind
/-- At a basis both are one. -/
theorem strong {es : List Ex} {ws W m : List Int} {den lev d : Int} (hes : ∀ x ∈ es, x.1.length = m.length) (hws : ws.length = m.length) (hsum : m.sum = d)
    (hlev : ∀ k x, m[k]? = some x → x ≠ 0 → lev = ws.getD k 0 * den + putsL es W k) (hper : ∀ (i : Nat) (x : Ex) (w : Int), es[i]? = some x → W[i]? = some w → w ≠ 0 → dotL x.1 m = x.2 * d) : (lev - spentL es W) * d = dotL ws m * den := by
  have h1 : wsum m (fun _ => lev) = wsum m fun k => ws.getD k 0 * den + putsL es W k := wsum_congr hlev
  rw [wsum_const, wsum_add, wsum_mulr, ← dotL_wsum _ _ (by omega), hsum, wsum_puts _ _ _ fun x hx => by rw [hes x hx]; exact Nat.le_refl _] at h1
  have h2 := useL_eq es W hper
  grind
theorem abs_mul {a b : Int} {A B : Nat} (ha : a.natAbs ≤ A) (hb : b.natAbs ≤ B) : (a * b).natAbs ≤ A * B := by rw [Int.natAbs_mul]; exact Nat.mul_le_mul ha hb
/-! The greatest common divisor. -/
theorem gcdL_dvd : ∀ (l : List Int) (g : Nat), gcdL g l ∣ g ∧ ∀ x ∈ l, (gcdL g l : Int) ∣ x
  | [], g => ⟨Nat.dvd_refl _, fun x hx => by cases hx⟩
  | n :: l, g => by
    obtain ⟨h1, h2⟩ := gcdL_dvd l (Nat.gcd g n.natAbs)
    simp only [gcdL]
    refine ⟨Nat.dvd_trans h1 (Nat.gcd_dvd_left _ _), fun x hx => ?_⟩
    rcases List.mem_cons.1 hx with rfl | hx
    · exact Int.ofNat_dvd_left.2 (Nat.dvd_trans h1 (Nat.gcd_dvd_right _ _))
    · exact h2 x hx
theorem gcdL_pos {l : List Int} {g : Nat} (x : Int) (hx : x ∈ l) (h0 : x ≠ 0) : 0 < gcdL g l := by
  rcases Nat.eq_zero_or_pos (gcdL g l) with h | h
  · have := (gcdL_dvd l g).2 x hx
    rw [h] at this
    exact absurd (Int.zero_dvd.1 this) h0
  · exact h
theorem map_div_mul {g : Int} (hg : 0 < g) {l : List Int} (h : ∀ x ∈ l, g ∣ x) : (l.map (· / g)).map (g * ·) = l := by
  rw [List.map_map]
  conv => rhs; rw [← List.map_id l]
  apply List.map_congr_left
  intro x hx
  simp only [Function.comp_apply, id_eq]
  exact Int.mul_ediv_cancel' (h x hx)
end Go.Proofs

set_option linter.unusedSimpArgs false
set_option linter.unusedVariables false
namespace Go.Proofs

/-! Bounds of determinants. -/
theorem pop_sub : ∀ n ∈ List.range 6, ∀ s ∈ List.range (2 ^ n), ∀ c ∈ List.range n, (s >>> c) % 2 = 1 → pop n (s - 2 ^ c) + 1 = pop n s ∧ 2 ^ c ≤ s := by decide +kernel
theorem pop_le : ∀ n ∈ List.range 6, ∀ s ∈ List.range (2 ^ n), pop n s ≤ n := by decide +kernel
theorem pop_pos : ∀ n ∈ List.range 6, ∀ s ∈ List.range (2 ^ n), s ≠ 0 → 1 ≤ pop n s := by decide +kernel

theorem minorC_bound {f : Nat → Nat → Int} {M : List Int} {row set Z : Nat} : ∀ (c : Nat) (acc sg : Int), (sg = 1 ∨ sg = -1) → (∀ j, j < c → (f row j).natAbs ≤ 400) → (∀ j, j < c → (set >>> j) % 2 = 1 → (M.getD (set - 2 ^ j) 0).natAbs ≤ Z) → (minorC f M row set c acc sg).natAbs ≤ acc.natAbs + c * (400 * Z)
  | 0, acc, _, _, _, _ => by unfold minorC; omega
  | c + 1, acc, sg, hs, hf, hM => by
    unfold minorC
    have hsg : (-sg = 1 ∨ -sg = -1) := by omega
    split
    · have := minorC_bound c acc sg hs (fun j hj => hf j (by omega)) fun j hj => hM j (by omega)
      rw [Nat.add_mul]
      omega
    · rename_i hb
      have hb1 : (set >>> c) % 2 = 1 := by omega
      have hfm := abs_mul (hf c (by omega)) (hM c (by omega) hb1)
      have h1 : ∀ acc', acc'.natAbs ≤ acc.natAbs + 400 * Z → (minorC f M row set c acc' (-sg)).natAbs ≤ acc.natAbs + (c + 1) * (400 * Z) := fun acc' ha => by
        have := minorC_bound c acc' (-sg) hsg (fun j hj => hf j (by omega)) fun j hj => hM j (by omega)
        rw [Nat.add_mul]
        omega
      refine h1 _ ?_
      split
      · omega
      · rw [Int.mul_assoc]
        rcases hs with rfl | rfl <;> omega
theorem getD_append_left {l : List Int} {x : Int} {k : Nat} (h : k < l.length) : (l ++ [x]).getD k 0 = l.getD k 0 := by
  rw [List.getD_eq_getElem?_getD, List.getElem?_append_left h, ← List.getD_eq_getElem?_getD]
theorem getD_append_last {l : List Int} {x : Int} {k : Nat} (h : k = l.length) : (l ++ [x]).getD k 0 = x := by
  subst h
  simp [List.getD_eq_getElem?_getD]
/-- The numbers of f are small. -/
def SmallF (f : Nat → Nat → Int) (n : Nat) : Prop := ∀ i j, i < n → j < n → (f i j).natAbs ≤ 400
theorem dpM_bound {f : Nat → Nat → Int} {n : Nat} (hn : n ≤ 5) (hf : SmallF f n) : ∀ s, s < 2 ^ n → ∀ k, k ≤ s → ((dpM f n s).getD k 0).natAbs ≤ 2000 ^ pop n k
  | 0, _, k, hk => by
    obtain rfl : k = 0 := by omega
    simp only [dpM, List.getD_cons_zero]
    exact Nat.one_le_pow _ _ (by omega)
  | s + 1, hs, k, hk => by
    have ih := dpM_bound hn hf s (by omega)
    have hl := dpM_len f n s
    unfold dpM
    by_cases hks : k ≤ s
    · rw [getD_append_left (by omega)]
      exact ih k hks
    · obtain rfl : k = s + 1 := by omega
      rw [getD_append_last (by omega)]
      have hn6 : n ∈ List.range 6 := List.mem_range.2 (by omega)
      have hsr : s + 1 ∈ List.range (2 ^ n) := List.mem_range.2 hs
      have hp1 := pop_pos n hn6 _ hsr (by omega)
      have hpn := pop_le n hn6 _ hsr
      unfold minorS
      have := minorC_bound (f := f) (M := dpM f n s) (row := pop n (s + 1) - 1) (set := s + 1) (Z := 2000 ^ (pop n (s + 1) - 1)) n 0 1 (.inl rfl) (fun j hj => hf _ _ (by omega) hj) fun j hj hb => by
        obtain ⟨e1, e2⟩ := pop_sub n hn6 _ hsr j (List.mem_range.2 hj) hb
        have h2 := Nat.two_pow_pos j
        have := ih (s + 1 - 2 ^ j) (by omega)
        rwa [show pop n (s + 1 - 2 ^ j) = pop n (s + 1) - 1 by omega] at this
      refine Nat.le_trans this ?_
      obtain ⟨p, hp⟩ : ∃ p, pop n (s + 1) = p + 1 := ⟨pop n (s + 1) - 1, by omega⟩
      rw [hp]
      simp only [Nat.add_sub_cancel, Int.natAbs_zero, Nat.zero_add, Nat.pow_succ]
      have : n * (400 * 2000 ^ p) ≤ 5 * (400 * 2000 ^ p) := Nat.mul_le_mul_right _ hn
      omega
/-- What the round of a set may lean on. -/
theorem dpM_small {f : Nat → Nat → Int} {n s j : Nat} (hn : n ≤ 5) (hf : SmallF f n) (hs : s + 1 < 2 ^ n) (hj : j < n) (hb : ((s + 1) >>> j) % 2 = 1) : ((dpM f n s).getD (s + 1 - 2 ^ j) 0).natAbs ≤ 16000000000000 ∧ 2 ^ j ≤ s + 1 ∧ pop n (s + 1) - 1 < n := by
  have hn6 : n ∈ List.range 6 := List.mem_range.2 (by omega)
  have hsr : s + 1 ∈ List.range (2 ^ n) := List.mem_range.2 hs
  obtain ⟨e1, e2⟩ := pop_sub n hn6 _ hsr j (List.mem_range.2 hj) hb
  have hpn := pop_le n hn6 _ hsr
  have h2 := Nat.two_pow_pos j
  have := dpM_bound hn hf s (by omega) (s + 1 - 2 ^ j) (by omega)
  refine ⟨Nat.le_trans this ?_, e2, by omega⟩
  have h4 : pop n (s + 1 - 2 ^ j) ≤ 4 := by omega
  exact Nat.le_trans (Nat.pow_le_pow_right (by omega) h4) (by decide)
end Go.Proofs
