import Derived.Test.YtbikblifpfokaaaGreatDoorMg10
import Derived.Test.YtbikblifpfokaaaGreatDoorMg4
set_option linter.unusedSimpArgs false
set_option linter.unusedVariables false
namespace Go.Proofs

/-! Rule books as automata: the plain law. -/
section
variable {R : Type}
/-- Two classes that no marks tell apart. -/
def alike (m : Nat) (nx : Nat → Nat → Nat) (rk : Nat → R) (i k : Nat) : Prop := ∀ u, valid m u → rk (runW nx i u) = rk (runW nx k u)
theorem runW_app {S : Type} (next : S → Nat → S) (s : S) (u v : List Nat) : runW next s (u ++ v) = runW next (runW next s u) v := by unfold runW; rw [List.foldl_append]
theorem valid_app {m : Nat} {u v : List Nat} : valid m (u ++ v) ↔ valid m u ∧ valid m v := by
  unfold valid
  constructor
  · intro h
    exact ⟨fun a ha => h a (List.mem_append_left _ ha), fun a ha => h a (List.mem_append_right _ ha)⟩
  · rintro ⟨h1, h2⟩ a ha
    rcases List.mem_append.1 ha with ha | ha
    · exact h1 a ha
    · exact h2 a ha
theorem valid_nil (m : Nat) : valid m [] := fun a ha => by cases ha
theorem valid_one {m a : Nat} (h : a < m) : valid m [a] := fun b hb => by simp at hb; omega
theorem alike_next {m : Nat} {nx : Nat → Nat → Nat} {rk : Nat → R} {i k : Nat} (h : alike m nx rk i k) {a : Nat} (ha : a < m) : alike m nx rk (nx i a) (nx k a) := fun u hu => by
  have := h ([a] ++ u) (valid_app.2 ⟨valid_one ha, hu⟩)
  rw [runW_app, runW_app] at this
  exact this
theorem alike_refl (m : Nat) (nx : Nat → Nat → Nat) (rk : Nat → R) (i : Nat) : alike m nx rk i i := fun _ _ => rfl
theorem alike_symm {m : Nat} {nx : Nat → Nat → Nat} {rk : Nat → R} {i k : Nat} (h : alike m nx rk i k) : alike m nx rk k i := fun u hu => (h u hu).symm
theorem alike_trans {m : Nat} {nx : Nat → Nat → Nat} {rk : Nat → R} {i j k : Nat} (h : alike m nx rk i j) (h2 : alike m nx rk j k) : alike m nx rk i k := fun u hu => (h u hu).trans (h2 u hu)
/-- The rank that marks lead to. -/
def rho (nx : Nat → Nat → Nat) (rk : Nat → R) (b : Nat) (u : List Nat) : R := rk (runW nx b u)
theorem rho_app (nx : Nat → Nat → Nat) (rk : Nat → R) (b : Nat) (u v : List Nat) : rho nx rk b (u ++ v) = rk (runW nx (runW nx b u) v) := by unfold rho; rw [runW_app]
/-! The sets of alike classes, class by class. -/
def setsTo (al : Nat → Nat → Bool) : Nat → List Nat × List Nat
  | 0 => ([], [])
  | i + 1 => match (setsTo al i).2.findIdx? (fun k => al i k) with
    | some n => ((setsTo al i).1 ++ [n], (setsTo al i).2)
    | none => ((setsTo al i).1 ++ [(setsTo al i).2.length], (setsTo al i).2 ++ [i])
theorem setsTo_inv (al : Nat → Nat → Bool) (hs : ∀ i k, al i k = al k i) (hr : ∀ i, al i i = true) : ∀ i,
    (setsTo al i).1.length = i ∧ (∀ j, j < i → ∃ n h, (setsTo al i).1[j]? = some n ∧ (setsTo al i).2[n]? = some h ∧ al j h = true) ∧
    ((setsTo al i).2.Pairwise fun h k => al h k = false) ∧ ∀ h ∈ (setsTo al i).2, h < i
  | 0 => ⟨rfl, fun j hj => by omega, List.Pairwise.nil, fun h hh => by cases hh⟩
  | i + 1 => by
    obtain ⟨h1, h2, h3, h4⟩ := setsTo_inv al hs hr i
    unfold setsTo
    generalize (setsTo al i).1 = O at *
    generalize (setsTo al i).2 = H at *
    cases hf : H.findIdx? (fun k => al i k) with
    | some n =>
      dsimp only
      obtain ⟨hn, ha, -⟩ := List.findIdx?_eq_some_iff_getElem.1 hf
      refine ⟨by simp [h1], fun j hj => ?_, h3, fun h hh => Nat.lt_succ_of_lt (h4 h hh)⟩
      by_cases e : j = i
      · subst e
        exact ⟨n, H[n], by rw [List.getElem?_append_right (by omega), h1]; simp, List.getElem?_eq_getElem hn, ha⟩
      · obtain ⟨n', h', e1, e2, e3⟩ := h2 j (by omega)
        exact ⟨n', h', by rw [List.getElem?_append_left (by omega)]; exact e1, e2, e3⟩
    | none =>
      dsimp only
      rw [List.findIdx?_eq_none_iff] at hf
      refine ⟨by simp [h1], fun j hj => ?_, ?_, ?_⟩
      · by_cases e : j = i
        · subst e
          exact ⟨H.length, j, by rw [List.getElem?_append_right (by omega), h1]; simp, by simp, hr j⟩
        · obtain ⟨n', h', e1, e2, e3⟩ := h2 j (by omega)
          exact ⟨n', h', by rw [List.getElem?_append_left (by omega)]; exact e1, by rw [List.getElem?_append_left (List.getElem?_eq_some_iff.1 e2).1]; exact e2, e3⟩
      · rw [List.pairwise_append]
        refine ⟨h3, by simp, fun x hx y hy => ?_⟩
        simp at hy
        subst hy
        rw [hs]
        simpa using hf x hx
      · intro h hh
        rcases List.mem_append.1 hh with hh | hh
        · exact Nat.lt_succ_of_lt (h4 h hh)
        · simp at hh; omega
theorem setsTo_eq {al : Nat → Nat → Bool} (hs : ∀ i k, al i k = al k i) (hr : ∀ i, al i i = true) (ht : ∀ i j k, al i j = true → al j k = true → al i k = true) {n i k : Nat} (hi : i < n) (hk : k < n) :
    (setsTo al n).1[i]? = (setsTo al n).1[k]? ↔ al i k = true := by
  obtain ⟨h1, h2, h3, h4⟩ := setsTo_inv al hs hr n
  obtain ⟨ni, xi, a1, a2, a3⟩ := h2 i hi
  obtain ⟨nk, xk, b1, b2, b3⟩ := h2 k hk
  rw [a1, b1]
  constructor
  · intro e
    injection e with e
    subst e
    rw [a2] at b2
    injection b2 with b2
    subst b2
    exact ht _ _ _ a3 (by rw [hs]; exact b3)
  · intro e
    have hx : al xi xk = true := ht _ _ _ (by rw [hs]; exact a3) (ht _ _ _ e b3)
    congr 1
    apply Decidable.byContradiction
    intro hne
    obtain ⟨l1, e1⟩ := List.getElem?_eq_some_iff.1 a2
    obtain ⟨l2, e2⟩ := List.getElem?_eq_some_iff.1 b2
    rcases Nat.lt_or_gt_of_ne hne with hlt | hlt
    · have := List.pairwise_iff_getElem.1 h3 ni nk l1 l2 hlt
      rw [e1, e2, hx] at this
      cases this
    · have := List.pairwise_iff_getElem.1 h3 nk ni l2 l1 hlt
      rw [e1, e2, hs, hx] at this
      cases this
/-! Which words are the first ones of their classes. -/
theorem sorted_eq : ∀ {l k : List (List Nat)}, l.Pairwise sl → k.Pairwise sl → (∀ x, x ∈ l ↔ x ∈ k) → l = k
  | [], [], _, _, _ => rfl
  | [], b :: k, _, _, h => by have := (h b).2 (List.mem_cons_self ..); cases this
  | a :: l, [], _, _, h => by have := (h a).1 (List.mem_cons_self ..); cases this
  | a :: l, b :: k, hl, hm, h => by
    rw [List.pairwise_cons] at hl hm
    have hab : a = b := by
      have h1 := (h a).1 (List.mem_cons_self ..)
      have h2 := (h b).2 (List.mem_cons_self ..)
      rcases List.mem_cons.1 h1 with e | h1
      · exact e
      · rcases List.mem_cons.1 h2 with e | h2
        · exact e.symm
        · exact (sl_irrefl _ (sl_trans (hm.1 a h1) (hl.1 b h2))).elim
    subst hab
    congr 1
    refine sorted_eq hl.2 hm.2 fun x => ⟨fun hx => ?_, fun hx => ?_⟩
    · rcases List.mem_cons.1 ((h x).1 (List.mem_cons_of_mem _ hx)) with e | h1
      · subst e; exact (sl_irrefl _ (hl.1 x hx)).elim
      · exact h1
    · rcases List.mem_cons.1 ((h x).2 (List.mem_cons_of_mem _ hx)) with e | h1
      · subst e; exact (sl_irrefl _ (hm.1 x hx)).elim
      · exact h1
theorem one_eq {S : Type} : ∀ {D : List (S × List Nat)}, (D.Pairwise fun p q => p.1 ≠ q.1) → ∀ {p q}, p ∈ D → q ∈ D → p.1 = q.1 → p = q
  | [], _, p, q, hp, _, _ => by cases hp
  | x :: D, h, p, q, hp, hq, e => by
    rw [List.pairwise_cons] at h
    rcases List.mem_cons.1 hp with h1 | h1
    · rcases List.mem_cons.1 hq with h2 | h2
      · rw [h1, h2]
      · subst h1; exact (h.1 q h2 e).elim
    · rcases List.mem_cons.1 hq with h2 | h2
      · subst h2; exact (h.1 p h1 e.symm).elim
      · exact one_eq h.2 h1 h2 e
theorem words_mem {S : Type} {next : S → Nat → S} {m : Nat} {b : S} {D : List (S × List Nat)} {seen : List S} (h : BInv next m b D [] seen m) (w : List Nat) :
    w ∈ D.map (·.2) ↔ valid m w ∧ ∀ u, valid m u → runW next b u = runW next b w → sle w u := by
  constructor
  · intro hw
    obtain ⟨p, hp, rfl⟩ := List.mem_map.1 hw
    obtain ⟨h1, h2⟩ := h.run p (by simpa using hp)
    refine ⟨h2, fun u hu e => ?_⟩
    obtain ⟨q, hq, h3, h4⟩ := h.least _ u rfl hu
    have : q.1 = p.1 := by rw [h3, e, h1]
    have ho := h.one
    rw [List.append_nil] at ho
    have hqp : q = p := one_eq ho hq hp this
    rw [hqp] at h4
    exact h4
  · rintro ⟨h1, h2⟩
    obtain ⟨q, hq, h3, h4⟩ := h.least _ w rfl h1
    obtain ⟨h5, h6⟩ := h.run q (by simpa using hq)
    have := h2 q.2 h6 (h5.trans h3)
    rw [sle_antisymm this h4]
    exact List.mem_map.2 ⟨q, hq, rfl⟩
/-! The least rule book: 'st' tells a class's set, 'hd' the class that stands for a set. -/
structure Mini (m n : Nat) (nx : Nat → Nat → Nat) (rk : Nat → R) (b : Nat) (st hd : Nat → Nat) : Prop where
  pb : b < n
  pnx : ∀ s, s < n → ∀ a, a < m → nx s a < n
  pst : ∀ i k, i < n → k < n → (st i = st k ↔ alike m nx rk i k)
  phd : ∀ u, valid m u → hd (st (runW nx b u)) < n ∧ st (hd (st (runW nx b u))) = st (runW nx b u)
variable {m n : Nat} {nx : Nat → Nat → Nat} {rk : Nat → R} {b : Nat} {st hd : Nat → Nat}
theorem Mini.run (h : Mini m n nx rk b st hd) : ∀ (k : Nat) (u : List Nat), u.length = k → valid m u → runW nx b u < n := by
  intro k
  induction k with
  | zero =>
    intro u hu _
    rw [List.eq_nil_of_length_eq_zero hu]
    exact h.pb
  | succ k ih =>
    intro u hu hv
    have hne : u ≠ [] := fun e => by rw [e] at hu; simp at hu
    obtain ⟨u', a, rfl⟩ : ∃ u' a, u = u' ++ [a] := ⟨u.dropLast, u.getLast hne, (List.dropLast_concat_getLast hne).symm⟩
    obtain ⟨v1, v2⟩ := valid_app.1 hv
    rw [runW_snoc]
    exact h.pnx _ (ih u' (by simp at hu; exact hu) v1) a (v2 a (by simp))
/-- Set by set. -/
def nxS (nx : Nat → Nat → Nat) (st hd : Nat → Nat) (k a : Nat) : Nat := st (nx (hd k) a)
theorem Mini.runS (h : Mini m n nx rk b st hd) : ∀ (k : Nat) (u : List Nat), u.length = k → valid m u → runW (nxS nx st hd) (st b) u = st (runW nx b u) := by
  intro k
  induction k with
  | zero =>
    intro u hu _
    rw [List.eq_nil_of_length_eq_zero hu]
    rfl
  | succ k ih =>
    intro u hu hv
    have hne : u ≠ [] := fun e => by rw [e] at hu; simp at hu
    obtain ⟨u', a, rfl⟩ : ∃ u' a, u = u' ++ [a] := ⟨u.dropLast, u.getLast hne, (List.dropLast_concat_getLast hne).symm⟩
    obtain ⟨v1, v2⟩ := valid_app.1 hv
    have ha := v2 a (by simp)
    rw [runW_snoc, runW_snoc, ih u' (by simp at hu; exact hu) v1]
    unfold nxS
    obtain ⟨h1, h2⟩ := h.phd u' v1
    have hr := h.run _ u' rfl v1
    rw [h.pst _ _ (h.pnx _ h1 a ha) (h.pnx _ hr a ha)]
    exact alike_next ((h.pst _ _ h1 hr).1 h2) ha
/-- Two words lead to one set just if no marks tell what is behind them apart. -/
theorem Mini.same (h : Mini m n nx rk b st hd) {u v : List Nat} (hu : valid m u) (hv : valid m v) :
    runW (nxS nx st hd) (st b) u = runW (nxS nx st hd) (st b) v ↔ ∀ z, valid m z → rho nx rk b (u ++ z) = rho nx rk b (v ++ z) := by
  rw [h.runS _ u rfl hu, h.runS _ v rfl hv, h.pst _ _ (h.run _ u rfl hu) (h.run _ v rfl hv)]
  constructor
  · intro hh z hz
    rw [rho_app, rho_app]
    exact hh z hz
  · intro hh z hz
    have := hh z hz
    rwa [rho_app, rho_app] at this
/-- Two books that are alike have least books of as many classes. -/
theorem Mini.lens {n' : Nat} {nx' : Nat → Nat → Nat} {rk' : Nat → R} {b' : Nat} {st' hd' : Nat → Nat} (h : Mini m n nx rk b st hd) (h' : Mini m n' nx' rk' b' st' hd')
    (he : ∀ u, valid m u → rho nx rk b u = rho nx' rk' b' u) {D D' : List (Nat × List Nat)} {seen seen' : List Nat} (hD : BInv (nxS nx st hd) m (st b) D [] seen m) (hD' : BInv (nxS nx' st' hd') m (st' b') D' [] seen' m) : D.length = D'.length := by
  have hs : (D.map (·.2)).Pairwise sl := by
    rw [List.pairwise_map]
    have := hD.sorted
    rwa [List.append_nil] at this
  have hs' : (D'.map (·.2)).Pairwise sl := by
    rw [List.pairwise_map]
    have := hD'.sorted
    rwa [List.append_nil] at this
  have key : ∀ {u v : List Nat}, valid m u → valid m v → (runW (nxS nx st hd) (st b) u = runW (nxS nx st hd) (st b) v ↔ runW (nxS nx' st' hd') (st' b') u = runW (nxS nx' st' hd') (st' b') v) := by
    intro u v hu hv
    rw [h.same hu hv, h'.same hu hv]
    constructor
    · intro hh z hz
      rw [← he _ (valid_app.2 ⟨hu, hz⟩), ← he _ (valid_app.2 ⟨hv, hz⟩)]
      exact hh z hz
    · intro hh z hz
      rw [he _ (valid_app.2 ⟨hu, hz⟩), he _ (valid_app.2 ⟨hv, hz⟩)]
      exact hh z hz
  have := sorted_eq hs hs' fun w => by
    rw [words_mem hD, words_mem hD']
    constructor
    · rintro ⟨h1, h2⟩
      exact ⟨h1, fun u hu e => h2 u hu ((key hu h1).2 e)⟩
    · rintro ⟨h1, h2⟩
      exact ⟨h1, fun u hu e => h2 u hu ((key hu h1).1 e)⟩
  have := congrArg List.length this
  rwa [List.length_map, List.length_map] at this
/-- The least book's own walk: 'num' numbers the sets that are reached, in their order. -/
theorem Mini.least (h : Mini m n nx rk b st hd) {D : List (Nat × List Nat)} {seen : List Nat} (hD : BInv (nxS nx st hd) m (st b) D [] seen m) (num : Nat → Nat) (hnum : ∀ (i : Nat) p, D[i]? = some p → num p.1 = i)
    (nx' : Nat → Nat → Nat) (rk' : Nat → R) (hnx : ∀ (i : Nat) p, D[i]? = some p → ∀ a, a < m → nx' i a = num (st (nx (hd p.1) a))) (hrk : ∀ (i : Nat) p, D[i]? = some p → rk' i = rk (hd p.1)) :
    ∀ (k : Nat) (u : List Nat), u.length = k → valid m u → (∃ p, D[runW nx' (num (st b)) u]? = some p ∧ p.1 = st (runW nx b u)) ∧ rho nx' rk' (num (st b)) u = rho nx rk b u := by
  have at' : ∀ u, valid m u → ∃ p, D[num (st (runW nx b u))]? = some p ∧ p.1 = st (runW nx b u) := by
    intro u hu
    obtain ⟨q, hq, h1, -⟩ := hD.least _ u rfl hu
    rw [h.runS _ u rfl hu] at h1
    obtain ⟨i, hi, e⟩ := List.getElem_of_mem hq
    have := hnum i q (by rw [List.getElem?_eq_getElem hi, e])
    rw [← h1, this]
    exact ⟨q, by rw [List.getElem?_eq_getElem hi, e], rfl⟩
  have main : ∀ (k : Nat) (u : List Nat), u.length = k → valid m u → runW nx' (num (st b)) u = num (st (runW nx b u)) := by
    intro k
    induction k with
    | zero =>
      intro u hu _
      rw [List.eq_nil_of_length_eq_zero hu]
      rfl
    | succ k ih =>
      intro u hu hv
      have hne : u ≠ [] := fun e => by rw [e] at hu; simp at hu
      obtain ⟨u', a, rfl⟩ : ∃ u' a, u = u' ++ [a] := ⟨u.dropLast, u.getLast hne, (List.dropLast_concat_getLast hne).symm⟩
      obtain ⟨v1, v2⟩ := valid_app.1 hv
      have ha := v2 a (by simp)
      obtain ⟨p, hp, e⟩ := at' u' v1
      rw [runW_snoc, ih u' (by simp at hu; exact hu) v1, hnx _ p hp a ha, e, runW_snoc]
      congr 1
      obtain ⟨h1, h2⟩ := h.phd u' v1
      have hr := h.run _ u' rfl v1
      rw [h.pst _ _ (h.pnx _ h1 a ha) (h.pnx _ hr a ha)]
      exact alike_next ((h.pst _ _ h1 hr).1 h2) ha
  intro k u hu hv
  obtain ⟨p, hp, e⟩ := at' u hv
  have hm := main k u hu hv
  refine ⟨⟨p, by rw [hm]; exact hp, e⟩, ?_⟩
  unfold rho
  rw [hm, hrk _ p hp, e]
  obtain ⟨h1, h2⟩ := h.phd u hv
  exact (h.pst _ _ h1 (h.run _ u rfl hv)).1 h2 [] (valid_nil m)
/-- What tells two books apart hangs on the ranks alone that marks lead to. -/
theorem dist_same [DecidableEq R] {n2 n3 n4 : Nat} {nx2 nx3 nx4 : Nat → Nat → Nat} {rk2 rk3 rk4 : Nat → R} {b2 b3 b4 : Nat} {U V : List (Nat × Nat)}
    (hb : (b, b2) ∈ U) (hU : ∀ s ∈ U, ∀ a, a < m → (nx s.1 a, nx2 s.2 a) ∈ U) (hb' : (b3, b4) ∈ V) (hV : ∀ s ∈ V, ∀ a, a < m → (nx3 s.1 a, nx4 s.2 a) ∈ V)
    (h1 : ∀ u, valid m u → rho nx rk b u = rho nx3 rk3 b3 u) (h2 : ∀ u, valid m u → rho nx2 rk2 b2 u = rho nx4 rk4 b4 u) :
    ((bfsB (fun s a => (nx s.1 a, nx2 s.2 a)) m (b, b2) U.length).find? fun p => decide (rk p.1.1 ≠ rk2 p.1.2)).map (·.2) =
    ((bfsB (fun s a => (nx3 s.1 a, nx4 s.2 a)) m (b3, b4) V.length).find? fun p => decide (rk3 p.1.1 ≠ rk4 p.1.2)).map (·.2) := by
  have pr : ∀ (f g : Nat → Nat → Nat) (i k : Nat) (u : List Nat), runW (fun (s : Nat × Nat) a => (f s.1 a, g s.2 a)) (i, k) u = (runW f i u, runW g k u) := by
    intro f g i k u
    unfold runW
    induction u generalizing i k with
    | nil => rfl
    | cons a u ih => rw [List.foldl_cons, List.foldl_cons, List.foldl_cons]; exact ih _ _
  have f1 := bfs_find (next := fun (s : Nat × Nat) a => (nx s.1 a, nx2 s.2 a)) (m := m) U hb hU (fun s => decide (rk s.1 ≠ rk2 s.2))
  have f2 := bfs_find (next := fun (s : Nat × Nat) a => (nx3 s.1 a, nx4 s.2 a)) (m := m) V hb' hV (fun s => decide (rk3 s.1 ≠ rk4 s.2))
  simp only [pr] at f1 f2
  have e : ∀ u, valid m u → (decide (rk (runW nx b u) ≠ rk2 (runW nx2 b2 u))) = decide (rk3 (runW nx3 b3 u) ≠ rk4 (runW nx4 b4 u)) := by
    intro u hu
    have a1 := h1 u hu
    have a2 := h2 u hu
    unfold rho at a1 a2
    rw [a1, a2]
  generalize (bfsB (fun s a => (nx s.1 a, nx2 s.2 a)) m (b, b2) U.length).find? (fun p => decide (rk p.1.1 ≠ rk2 p.1.2)) = O1 at *
  generalize (bfsB (fun s a => (nx3 s.1 a, nx4 s.2 a)) m (b3, b4) V.length).find? (fun p => decide (rk3 p.1.1 ≠ rk4 p.1.2)) = O2 at *
  cases O1 with
  | none =>
    cases O2 with
    | none => rfl
    | some q =>
      obtain ⟨q1, q2, q3, q4⟩ := f2
      have := f1 q.2 q3
      rw [e _ q3, q1] at this
      cases this
  | some p =>
    obtain ⟨p1, p2, p3, p4⟩ := f1
    cases O2 with
    | none =>
      have := f2 p.2 p3
      rw [← e _ p3, p1] at this
      cases this
    | some q =>
      obtain ⟨q1, q2, q3, q4⟩ := f2
      have : p.2 = q.2 := sle_antisymm (p4 q.2 q3 (by rw [e _ q3]; exact q1)) (q4 p.2 p3 (by rw [← e _ p3]; exact p1))
      simp [this]
end
end Go.Proofs

set_option linter.unusedSimpArgs false
set_option linter.unusedVariables false
namespace Go.Proofs
open Go.RowKit

/-! Rule books in memory. -/
def Sc (s : ByteArray) : List Value := [.string s]
/-- A class with its slices' places. -/
structure Cl where
  nm : ByteArray
  nA : Option Addr
  nx : List Int
  nc : Nat
  rA : Option Addr
  rs : List ByteArray
  rc : Nat
def Cl.cs (x : Cl) : List Value := [.string x.nm, .slice x.nA x.nx.length x.nc, .slice x.rA x.rs.length x.rc]
/-- A book lies at these slices. -/
structure BkAt (w : World) (mA : Option Addr) (mk : List ByteArray) (cA : Option Addr) (cl : List Cl) : Prop where
  mks : At 1 Sc w mA mk
  cls : At 3 Cl.cs w cA cl
  nxs : ∀ x ∈ cl, At 1 Ic w x.nA x.nx
  rss : ∀ x ∈ cl, At 1 Sc w x.rA x.rs
theorem BkAt.below {w w' : World} {mA cA : Option Addr} {mk : List ByteArray} {cl : List Cl} (h : BkAt w mA mk cA cl) (hb : Below w.heap.size w w') : BkAt w' mA mk cA cl :=
  ⟨h.mks.below hb, h.cls.below hb, fun x hx => (h.nxs x hx).below hb, fun x hx => (h.rss x hx).below hb⟩
/-- What a right book is. -/
structure RightB (mk : List ByteArray) (bg : Int) (cl : List Cl) : Prop where
  m1 : 0 < mk.length ∧ mk.length ≤ 6
  c1 : 0 < cl.length ∧ cl.length ≤ 8
  mn : ∀ s ∈ mk, nameB s.data.toList = true
  md : mk.Pairwise fun a b => a.toList ≠ b.toList
  bg : 0 ≤ bg ∧ bg ≤ (cl.length : Int) - 1
  nm : ∀ x ∈ cl, nameB x.nm.data.toList = true
  cd : cl.Pairwise fun x y => x.nm.toList ≠ y.nm.toList
  sh : ∀ x ∈ cl, x.nx.length = mk.length ∧ x.rs.length = mk.length
  nx : ∀ x ∈ cl, ∀ y ∈ x.nx, 0 ≤ y ∧ y ≤ (cl.length : Int) - 1
  rn : ∀ x ∈ cl, ∀ s ∈ x.rs, nameB s.data.toList = true
/-- Where a mark leads. -/
def nxC (cl : List Cl) (i a : Nat) : Nat := match cl[i]? with
  | some x => (x.nx.getD a 0).toNat
  | none => 0
def BKV (mA : Option Addr) (mk : List ByteArray) (mc : Nat) (bg : Int) (cA : Option Addr) (cl : List Cl) (cc : Nat) : Value := .agg #[.slice mA mk.length mc, .int .i64 bg, .slice cA cl.length cc]
set_option maxRecDepth 100000 in
set_option maxHeartbeats 1000000 in
theorem next_any (mA cA : Option Addr) (mk : List ByteArray) (cl : List Cl) (mc cc : Nat) (bg : Int) (i a : Nat) (w : World) (hR : RightB mk bg cl) (hat : BkAt w mA mk cA cl) (hi : i < cl.length) (ha : a < mk.length) :
    Calls Tryz.prog 28 #[.agg #[.slice mA mk.length mc, .int .i64 bg, .slice cA cl.length cc], .int .i64 i, .int .i64 a] w fun e w' => e = .returned (.int .i64 (nxC cl i a)) ∧ Below w.heap.size w w' := by
  obtain ⟨x, hx⟩ : ∃ x, cl[i]? = some x := ⟨_, List.getElem?_eq_getElem hi⟩
  have hxm := List.mem_of_getElem? hx
  obtain ⟨hl, -⟩ := hR.sh x hxm
  obtain ⟨y, hy⟩ : ∃ y, x.nx[a]? = some y := ⟨_, List.getElem?_eq_getElem (by omega)⟩
  have hyr := hR.nx x hxm y (List.mem_of_getElem? hy)
  have hv : (nxC cl i a : Int) = y := by
    unfold nxC
    rw [hx]
    simp [List.getD, hy]
    omega
  rw [hv]
  have hc1 := hR.c1
  have hm1 := hR.m1
  obtain ⟨b, o, rfl, hb, hc⟩ := hat.cls i x hx
  obtain ⟨b2, o2, hA, hb2, hc2⟩ := hat.nxs x hxm a y hy
  obtain ⟨nm, nA, nx, nc, rA, rs, rc⟩ := x
  dsimp only at hl hA
  subst hA
  have c1 := hc 1 _ rfl
  have d0 := hc2 0 _ rfl
  dsimp only at c1
  simp only [Nat.add_zero, Nat.mul_one] at d0
  obtain ⟨N, hN⟩ : ∃ N, cl.length = N := ⟨_, rfl⟩
  obtain ⟨M, hM⟩ : ∃ M, mk.length = M := ⟨_, rfl⟩
  rw [hl] at c1
  rw [hM] at c1 ha hm1 ⊢
  rw [hN] at hi hc1 ⊢
  have hiI : (i : Int) < (N : Int) := by omega
  have haI : (a : Int) < (M : Int) := by omega
  clear hR hat hx hxm hy hc hc2 hl hN hM hv
  go_enter Tryz.func28, Tryz.ntmps28
  go_wp2
  go_ret
  exact ⟨rfl, by go_grown⟩
end Go.Proofs

set_option linter.unusedSimpArgs false
set_option linter.unusedVariables false
namespace Go.Proofs
open Go.RowKit

theorem take_eq_step {a b : List Int} {k : Nat} {x y : Int} (ha : a[k]? = some x) (hb : b[k]? = some y) (h : a.take k = b.take k) (e : x = y) : a.take (k + 1) = b.take (k + 1) := by
  rw [List.take_add_one, List.take_add_one, ha, hb, h, e]
set_option maxRecDepth 100000 in
set_option maxHeartbeats 1000000 in
/-- Whether two lists of numbers are the same. -/
theorem ints_any (A B : Option Addr) (a b : List Int) (ca cb : Nat) (w : World) (hl : a.length ≤ 9223372036854775807) (hm : b.length ≤ 9223372036854775807) (hat : At 1 Ic w A a) (hbt : At 1 Ic w B b) :
    Calls Tryz.prog 11 #[.slice A a.length ca, .slice B b.length cb] w fun e w' => e = .returned (.bool (a == b)) ∧ Below w.heap.size w w' := by
  obtain ⟨R, hR⟩ : ∃ R, (a == b) = R := ⟨_, rfl⟩
  have hR' := Lib.hid hR
  rw [hR]
  clear hR
  have hat' := Lib.hid hat
  have hbt' := Lib.hid hbt
  clear hat hbt
  by_cases hlen : a.length = b.length
  case neg =>
    have hF : R = false := by
      rw [← hR'.out, beq_eq_false_iff_ne]
      exact fun e => hlen (by rw [e])
    subst hF
    have hlI : ((a.length : Int) != (b.length : Int)) = true := by
      rw [bne_iff_ne]; omega
    go_enter Tryz.func11, Tryz.ntmps11
    go_wp2
    go_ret
    exact ⟨rfl, by go_grown⟩
  have hlI : ((a.length : Int) != (b.length : Int)) = false := by
    rw [bne_eq_false_iff_eq]; omega
  go_enter Tryz.func11, Tryz.ntmps11
  go_wp2
  go_loopw [5] (fun i wr => ∃ k : Nat, k ≤ a.length ∧ i = .int .i64 k ∧ Hid (a.take k = b.take k) ∧ Below w.heap.size w wr) (fun i _ => a.length - (intOf i).toNat)
  case atStart => exact ⟨0, Nat.zero_le _, rfl, by unfold Hid; simp, by go_grown⟩
  case round =>
    obtain ⟨k, hk, rfl, hno, hbw⟩ := hrel
    by_cases hlt : k < a.length
    · obtain ⟨x, hx⟩ : ∃ x, a[k]? = some x := ⟨_, List.getElem?_eq_getElem hlt⟩
      obtain ⟨y, hy⟩ : ∃ y, b[k]? = some y := ⟨_, List.getElem?_eq_getElem (by omega)⟩
      obtain ⟨p, o, rfl, hbl, hc⟩ := (hat'.out.below hbw) k x hx
      obtain ⟨p', o', rfl, hbl', hc'⟩ := (hbt'.out.below hbw) k y hy
      have c0 := hc 0 _ rfl
      have d0 := hc' 0 _ rfl
      simp only [Nat.add_zero, Nat.mul_one] at c0 d0
      have hkI : (k : Int) < (a.length : Int) := by omega
      have hkJ : (k : Int) < (b.length : Int) := by omega
      have hx' := Lib.hid hx
      have hy' := Lib.hid hy
      clear hc hy hc' hx
      cases hq : (x != y)
      case true =>
        have hF : R = false := by
          rw [← hR'.out, beq_eq_false_iff_ne]
          intro e
          have h1 := hx'.out
          rw [e, hy'.out] at h1
          injection h1 with h1
          exact (bne_iff_ne.1 hq) h1.symm
        subst hF
        go_wp2
        refine region_all wr (by kernel_rfl) (by kernel_rfl) (by go_grown) ?_
        intro hgc hbx
        repeat (go_big_quiet_step (fail))
        refine wpQuiet_nil ?_
        intro w3 hb3 hbw3 hsz3
        clear hgc hbx
        have hbw4 := via hbw hb3
        go_wp2
        go_ret
        exact ⟨rfl, hbw4⟩
      case false =>
        have hgo : Hid (a.take (k + 1) = b.take (k + 1)) := take_eq_step hx'.out hy'.out hno.out (by simpa using hq)
        go_wp2
        refine region_all wr (by kernel_rfl) (by kernel_rfl) (by go_grown) ?_
        intro hgc hbx
        repeat (go_big_quiet_step (fail))
        refine wpQuiet_nil ?_
        intro w3 hb3 hbw3 hsz3
        clear hgc hbx
        have hbw4 := via hbw hb3
        go_wp2
        go_roundw
        case rel => exact ⟨k + 1, by omega, by go_num, hgo, hbw4⟩
        case measure => simp [intOf]; omega
    · have hT : R = true := by
        rw [← hR'.out, beq_iff_eq]
        have := hno.out
        rwa [List.take_of_length_le (by omega), List.take_of_length_le (by omega)] at this
      subst hT
      have hlI : ¬ (k : Int) < (a.length : Int) := by omega
      go_wp2
      go_ret
      exact ⟨rfl, hbw⟩
set_option maxRecDepth 100000 in
set_option maxHeartbeats 1000000 in
theorem copyInts_any (A : Option Addr) (l : List Int) (c : Nat) (w : World) (hl : l.length ≤ 1000) (hat : At 1 Ic w A l) :
    Calls Tryz.prog 15 #[.slice A l.length c] w fun e w' => (∃ v, e = .returned v ∧ w'.ownsRow w.heap.size 3 1 v l.length (l.flatMap Ic)) ∧ Below w.heap.size w w' := by
  obtain ⟨i1, z1, i11, i12, i13, i14, i15⟩ := info_of (t := 3) (n := 1) (b := 8) (by kernel_rfl)
  have hI := Lib.hid fun (x : World) (b base : Nat) (h1 : base ≤ b) (h2 : x.heap[b]? = some (.cells #[] 3 (0, 0))) (h3 : base ≤ x.heap.size) (hat : At 1 Ic x A l) => append_copy_own (P := Tryz.prog) (sz := 1) (cs := Ic) (x := x) (t := 26) (ty := 26) (fun _ => rfl) (by decide) Tryz.underlying26 i11 i12 i13 i14 i15 (by decide) b base h1 h2 h3 c hat hl
  have hat' := Lib.hid (hat.below (new_below w (.cells #[] 3)))
  obtain ⟨v', x', hr, hb, hown⟩ := hI.out (w.alloc (.cells #[] 3)) w.heap.size w.heap.size (Nat.le_refl _) (bk_new _ _ rfl) (by simp) hat'.out
  have hr' := Lib.hid hr
  have hown' := Lib.hid hown
  have hbw := via (new_below _ _) hb
  clear hr hown hI i11 i12 i13 i14 i15 hat
  go_enter Tryz.func15, Tryz.ntmps15
  go_wp2_with (at_builtin; refine wpList_app rfl _ _ 26 rfl rfl rfl hr'.out ?_)
  refine bodyPost_ret (v := v') ?_ rfl ⟨⟨v', rfl, hown'.out⟩, hbw⟩
  simp [results, Tryz.results15, go_sem]
theorem copyInts_at (A : Option Addr) (l : List Int) (c : Nat) (w : World) (hl : l.length ≤ 1000) (hat : At 1 Ic w A l) :
    Calls Tryz.prog 15 #[.slice A l.length c] w fun e w' => (∃ A' c', e = .returned (.slice A' l.length c') ∧ At 1 Ic w' A' l) ∧ Below w.heap.size w w' := by
  refine (copyInts_any A l c w hl hat).mono ?_
  rintro e w' ⟨⟨v, rfl, hv⟩, hb⟩
  obtain ⟨A', c', rfl, h⟩ := at_of_owns (cs := Ic) (sz := 1) (fun _ => rfl) hv
  exact ⟨⟨A', c', rfl, h⟩, hb⟩
end Go.Proofs
