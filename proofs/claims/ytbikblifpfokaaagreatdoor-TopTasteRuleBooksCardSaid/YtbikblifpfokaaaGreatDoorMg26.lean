import Derived.Test.YtbikblifpfokaaaGreatDoorMg25
import Derived.Test.YtbikblifpfokaaaGreatDoorMg3
import Derived.Test.YtbikblifpfokaaaGreatDoorMg12
import Derived.Test.YtbikblifpfokaaaGreatDoorMg13
set_option linter.unusedSimpArgs false
set_option linter.unusedVariables false
namespace Go.Proofs

/-! What hangs on the keys of a book alone. -/
theorem key_get {cl cl' : List Cl} (h : cl'.map Cl.key = cl.map Cl.key) {i : Nat} {x' : Cl} (hx : cl'[i]? = some x') : ∃ x, cl[i]? = some x ∧ x'.key = x.key := by
  have h1 : (cl.map Cl.key)[i]? = some x'.key := by rw [← h, List.getElem?_map, hx]; rfl
  rw [List.getElem?_map] at h1
  cases h2 : cl[i]? with
  | none => rw [h2] at h1; cases h1
  | some x =>
    rw [h2] at h1
    simp only [Option.map_some, Option.some.injEq] at h1
    exact ⟨x, rfl, h1.symm⟩
theorem key_len {cl cl' : List Cl} (h : cl'.map Cl.key = cl.map Cl.key) : cl'.length = cl.length := by
  have := congrArg List.length h
  rwa [List.length_map, List.length_map] at this
theorem key_parts {x x' : Cl} (h : x'.key = x.key) : x'.nm = x.nm ∧ x'.nx = x.nx ∧ x'.rs = x.rs := by
  unfold Cl.key at h
  injection h with h1 h2
  injection h2 with h2 h3
  exact ⟨h1, h2, h3⟩
theorem nxC_at {cl : List Cl} {i : Nat} {x : Cl} (h : cl[i]? = some x) (a : Nat) : nxC cl i a = (x.nx.getD a 0).toNat := by
  unfold nxC
  rw [h]
theorem nxC_key {cl cl' : List Cl} (h : cl'.map Cl.key = cl.map Cl.key) : nxC cl' = nxC cl := by
  funext i a
  unfold nxC
  cases h1 : cl'[i]? with
  | none =>
    have h2 : cl[i]? = none := by
      rw [List.getElem?_eq_none_iff] at h1 ⊢
      rw [← key_len h]
      exact h1
    rw [h2]
  | some x' =>
    obtain ⟨x, h2, hk⟩ := key_get h h1
    rw [h2]
    dsimp only
    rw [(key_parts hk).2.1]
theorem clN_key {cl cl' : List Cl} (h : cl'.map Cl.key = cl.map Cl.key) (i : Nat) : clN cl' i = clN cl i := by
  unfold clN
  cases h1 : cl'[i]? with
  | none =>
    have h2 : cl[i]? = none := by
      rw [List.getElem?_eq_none_iff] at h1 ⊢
      rw [← key_len h]
      exact h1
    rw [h2]
  | some x' =>
    obtain ⟨x, h2, hk⟩ := key_get h h1
    rw [h2]
    dsimp only
    rw [(key_parts hk).1]
theorem rkC_key {cl cl' : List Cl} (h : cl'.map Cl.key = cl.map Cl.key) : rkC cl' = rkC cl := by
  funext i
  unfold rkC
  cases h1 : cl'[i]? with
  | none =>
    have h2 : cl[i]? = none := by
      rw [List.getElem?_eq_none_iff] at h1 ⊢
      rw [← key_len h]
      exact h1
    rw [h2]
  | some x' =>
    obtain ⟨x, h2, hk⟩ := key_get h h1
    rw [h2]
    dsimp only
    rw [(key_parts hk).1]
theorem right_key {mk : List ByteArray} {bg : Int} {cl cl' : List Cl} (h : cl'.map Cl.key = cl.map Cl.key) (hR : RightB mk bg cl) : RightB mk bg cl' := by
  have hl := key_len h
  have hm : ∀ x' ∈ cl', ∃ x ∈ cl, x'.nm = x.nm ∧ x'.nx = x.nx ∧ x'.rs = x.rs := by
    intro x' hx'
    obtain ⟨i, hi, e⟩ := List.getElem_of_mem hx'
    obtain ⟨x, h2, hk⟩ := key_get h (i := i) (x' := x') (by rw [List.getElem?_eq_getElem hi, e])
    exact ⟨x, List.mem_of_getElem? h2, key_parts hk⟩
  refine ⟨hR.m1, by rw [hl]; exact hR.c1, hR.mn, hR.md, by rw [hl]; exact hR.bg, ?_, ?_, ?_, ?_, ?_⟩
  · intro x' hx'
    obtain ⟨x, hx, e1, -, -⟩ := hm x' hx'
    rw [e1]
    exact hR.nm x hx
  · have h1 : (cl.map fun x => x.nm).Pairwise fun a b => a.toList ≠ b.toList := by
      rw [List.pairwise_map]
      exact hR.cd
    have h2 : (cl'.map fun x => x.nm) = cl.map fun x => x.nm := by
      have := congrArg (List.map fun (k : ByteArray × List Int × List ByteArray) => k.1) h
      rw [List.map_map, List.map_map] at this
      exact this
    rw [← h2, List.pairwise_map] at h1
    exact h1
  · intro x' hx'
    obtain ⟨x, hx, -, e2, e3⟩ := hm x' hx'
    rw [e2, e3]
    exact hR.sh x hx
  · intro x' hx'
    obtain ⟨x, hx, -, e2, -⟩ := hm x' hx'
    rw [e2, hl]
    exact hR.nx x hx
  · intro x' hx'
    obtain ⟨x, hx, -, -, e3⟩ := hm x' hx'
    rw [e3]
    exact hR.rn x hx
theorem distC_key {m : Nat} {cl cl' cl2 cl2' : List Cl} (h : cl'.map Cl.key = cl.map Cl.key) (h2 : cl2'.map Cl.key = cl2.map Cl.key) (b b2 : Nat) : distC m cl' cl2' b b2 = distC m cl cl2 b b2 := by
  have e1 : bothC cl' cl2' = bothC cl cl2 := by
    funext p a
    unfold bothC
    rw [nxC_key h, nxC_key h2]
  have e2 : dif cl' cl2' = dif cl cl2 := by
    funext p
    unfold dif
    rw [rkC_key h, rkC_key h2]
  unfold distC
  rw [e1, e2, key_len h, key_len h2]
/-! The least book. -/
theorem least_get {mk : List ByteArray} {bg : Nat} {cl cl' : List Cl} (hR : RightB mk bg cl) (hL : cl'.map Cl.key = (d2C mk.length cl bg).map (clL mk.length cl bg)) {i : Nat} {x' : Cl} (hx : cl'[i]? = some x') :
    ∃ (s : Nat) (x : Cl), (d2C mk.length cl bg)[i]? = some s ∧ cl[hdC (stC mk.length cl) (d1C mk.length cl bg) s]? = some x ∧ x'.nm = x.nm ∧ x'.rs = x.rs ∧ x'.nx = x.nx.map fun (t : Int) => ((numC (d2C mk.length cl bg) (stC mk.length cl t.toNat) : Nat) : Int) := by
  have h1 : ((d2C mk.length cl bg).map (clL mk.length cl bg))[i]? = some x'.key := by rw [← hL, List.getElem?_map, hx]; rfl
  rw [List.getElem?_map] at h1
  cases h2 : (d2C mk.length cl bg)[i]? with
  | none => rw [h2] at h1; cases h1
  | some s =>
    rw [h2] at h1
    simp only [Option.map_some, Option.some.injEq] at h1
    have hlt : hdC (stC mk.length cl) (d1C mk.length cl bg) s < cl.length := hdC_lt hR.c1.1 (d1_lt hR) s
    obtain ⟨x, h3⟩ : ∃ x, cl[hdC (stC mk.length cl) (d1C mk.length cl bg) s]? = some x := ⟨_, List.getElem?_eq_getElem hlt⟩
    unfold clL at h1
    rw [h3] at h1
    dsimp only at h1
    unfold Cl.key at h1
    injection h1 with a1 a2
    injection a2 with a2 a3
    exact ⟨s, x, rfl, h3, a1.symm, a3.symm, a2.symm⟩
theorem least_len {mk : List ByteArray} {bg : Nat} {cl cl' : List Cl} (hL : cl'.map Cl.key = (d2C mk.length cl bg).map (clL mk.length cl bg)) : cl'.length = (d2C mk.length cl bg).length := by
  have := congrArg List.length hL
  rwa [List.length_map, List.length_map] at this
theorem least_at {mk : List ByteArray} {bg : Nat} {cl cl' : List Cl} (hL : cl'.map Cl.key = (d2C mk.length cl bg).map (clL mk.length cl bg)) {i s : Nat} (hs : (d2C mk.length cl bg)[i]? = some s) : ∃ x', cl'[i]? = some x' := by
  have h1 := (List.getElem?_eq_some_iff.1 hs).1
  rw [← least_len hL] at h1
  exact ⟨_, List.getElem?_eq_getElem h1⟩
/-- A set that is reached has its number. -/
theorem num_lt {mk : List ByteArray} {bg : Nat} {cl : List Cl} (hR : RightB mk bg cl) {u : List Nat} (hu : valid mk.length u) {a : Nat} (ha : a < mk.length) :
    numC (d2C mk.length cl bg) (stC mk.length cl (nxC cl (hdC (stC mk.length cl) (d1C mk.length cl bg) (stC mk.length cl (runW (nxC cl) bg u))) a)) < (d2C mk.length cl bg).length := by
  have hM := mini_of hR
  obtain ⟨h1, h2⟩ := hM.phd u hu
  have hr := hM.run _ u rfl hu
  have e : stC mk.length cl (nxC cl (hdC (stC mk.length cl) (d1C mk.length cl bg) (stC mk.length cl (runW (nxC cl) bg u))) a) = stC mk.length cl (runW (nxC cl) bg (u ++ [a])) := by
    rw [runW_snoc, hM.pst _ _ (hM.pnx _ h1 a ha) (hM.pnx _ hr a ha)]
    exact alike_next ((hM.pst _ _ h1 hr).1 h2) ha
  rw [e]
  have hv : valid mk.length (u ++ [a]) := valid_app.2 ⟨hu, valid_one ha⟩
  obtain ⟨seen, hD⟩ := d2_done hR
  obtain ⟨q, hq, h3, -⟩ := hD.least _ (u ++ [a]) rfl hv
  have h4 := hM.runS _ (u ++ [a]) rfl hv
  have h5 : q.1 = stC mk.length cl (runW (nxC cl) bg (u ++ [a])) := h3.trans h4
  rw [← h5]
  obtain ⟨i, hi, e⟩ := List.getElem_of_mem hq
  have h6 : (d2C mk.length cl bg)[i]? = some q.1 := by
    unfold d2C
    rw [List.getElem?_map, List.getElem?_eq_getElem hi, e]
    rfl
  rw [numC_get (d2_one hR) h6]
  exact (List.getElem?_eq_some_iff.1 h6).1
theorem least_nx {mk : List ByteArray} {bg : Nat} {cl cl' : List Cl} (hR : RightB mk bg cl) (hL : cl'.map Cl.key = (d2C mk.length cl bg).map (clL mk.length cl bg)) {i s : Nat} (hs : (d2C mk.length cl bg)[i]? = some s) {a : Nat} (ha : a < mk.length) :
    nxC cl' i a = numC (d2C mk.length cl bg) (stC mk.length cl (nxC cl (hdC (stC mk.length cl) (d1C mk.length cl bg) s) a)) := by
  obtain ⟨x', hx'⟩ := least_at hL hs
  obtain ⟨s', x, h1, h2, -, -, h5⟩ := least_get hR hL hx'
  rw [hs] at h1
  injection h1 with h1
  subst h1
  have hl := (hR.sh x (List.mem_of_getElem? h2)).1
  obtain ⟨y, hy⟩ : ∃ y, x.nx[a]? = some y := ⟨_, List.getElem?_eq_getElem (by omega)⟩
  unfold nxC
  rw [hx', h2]
  dsimp only
  rw [h5, List.getD_eq_getElem?_getD, List.getD_eq_getElem?_getD, List.getElem?_map, hy]
  rfl
theorem least_rk {mk : List ByteArray} {bg : Nat} {cl cl' : List Cl} (hR : RightB mk bg cl) (hL : cl'.map Cl.key = (d2C mk.length cl bg).map (clL mk.length cl bg)) {i s : Nat} (hs : (d2C mk.length cl bg)[i]? = some s) :
    rkL cl' i = rkL cl (hdC (stC mk.length cl) (d1C mk.length cl bg) s) := by
  obtain ⟨x', hx'⟩ := least_at hL hs
  obtain ⟨s', x, h1, h2, h3, -, -⟩ := least_get hR hL hx'
  rw [hs] at h1
  injection h1 with h1
  subst h1
  unfold rkL rkC
  rw [hx', h2]
  dsimp only
  rw [h3]
theorem least_right {mk : List ByteArray} {bg : Nat} {cl cl' : List Cl} (hR : RightB mk bg cl) (hL : cl'.map Cl.key = (d2C mk.length cl bg).map (clL mk.length cl bg)) : RightB mk ((0 : Nat) : Int) cl' := by
  have hl := least_len hL
  have h0 : 0 < (d2C mk.length cl bg).length := (List.getElem?_eq_some_iff.1 (d2_first hR)).1
  have h8 := d2_len hR
  have hM := mini_of hR
  have hg : ∀ x' ∈ cl', ∃ i, cl'[i]? = some x' := fun x' hx' => by
    obtain ⟨i, hi, e⟩ := List.getElem_of_mem hx'
    exact ⟨i, by rw [List.getElem?_eq_getElem hi, e]⟩
  refine ⟨hR.m1, ⟨by omega, by have := hR.c1.2; omega⟩, hR.mn, hR.md, ⟨by omega, by omega⟩, ?_, ?_, ?_, ?_, ?_⟩
  · intro x' hx'
    obtain ⟨i, hi⟩ := hg x' hx'
    obtain ⟨s, x, -, h2, h3, -, -⟩ := least_get hR hL hi
    rw [h3]
    exact hR.nm x (List.mem_of_getElem? h2)
  · rw [List.pairwise_iff_getElem]
    intro i j hi hj hij he
    obtain ⟨s, x, a1, a2, a3, -, -⟩ := least_get hR hL (List.getElem?_eq_getElem hi)
    obtain ⟨t, y, b1, b2, b3, -, -⟩ := least_get hR hL (List.getElem?_eq_getElem hj)
    rw [a3, b3] at he
    obtain ⟨u, hu, rfl⟩ := d2_reach hR a1
    obtain ⟨v, hv, rfl⟩ := d2_reach hR b1
    obtain ⟨p1, p2⟩ := hM.phd u hu
    obtain ⟨q1, q2⟩ := hM.phd v hv
    have hh : hdC (stC mk.length cl) (d1C mk.length cl bg) (stC mk.length cl (runW (nxC cl) bg u)) = hdC (stC mk.length cl) (d1C mk.length cl bg) (stC mk.length cl (runW (nxC cl) bg v)) := by
      obtain ⟨l1, e1⟩ := List.getElem?_eq_some_iff.1 a2
      obtain ⟨l2, e2⟩ := List.getElem?_eq_some_iff.1 b2
      have hp := List.pairwise_iff_getElem.1 hR.cd
      apply Decidable.byContradiction
      intro hne
      rcases Nat.lt_or_gt_of_ne hne with hlt | hlt
      · have := hp _ _ l1 l2 hlt
        rw [e1, e2] at this
        exact this he
      · have := hp _ _ l2 l1 hlt
        rw [e1, e2] at this
        exact this he.symm
    have hst : stC mk.length cl (runW (nxC cl) bg u) = stC mk.length cl (runW (nxC cl) bg v) := by
      rw [← p2, ← q2, hh]
    obtain ⟨l1, e1⟩ := List.getElem?_eq_some_iff.1 a1
    obtain ⟨l2, e2⟩ := List.getElem?_eq_some_iff.1 b1
    have := List.pairwise_iff_getElem.1 (d2_one hR) i j l1 l2 hij
    rw [e1, e2] at this
    exact this hst
  · intro x' hx'
    obtain ⟨i, hi⟩ := hg x' hx'
    obtain ⟨s, x, -, h2, -, h4, h5⟩ := least_get hR hL hi
    rw [h5, h4, List.length_map]
    exact hR.sh x (List.mem_of_getElem? h2)
  · intro x' hx' y hy
    obtain ⟨i, hi⟩ := hg x' hx'
    obtain ⟨s, x, h1, h2, -, -, h5⟩ := least_get hR hL hi
    rw [h5] at hy
    obtain ⟨t, ht, rfl⟩ := List.mem_map.1 hy
    obtain ⟨a, ha, e⟩ := List.getElem_of_mem ht
    have hsh := (hR.sh x (List.mem_of_getElem? h2)).1
    obtain ⟨u, hu, rfl⟩ := d2_reach hR h1
    have := num_lt hR hu (a := a) (by omega)
    have hnx : nxC cl (hdC (stC mk.length cl) (d1C mk.length cl bg) (stC mk.length cl (runW (nxC cl) bg u))) a = t.toNat := by
      rw [nxC_at h2, List.getD_eq_getElem?_getD, List.getElem?_eq_getElem ha, e]
      rfl
    rw [hnx] at this
    rw [hl]
    omega
  · intro x' hx'
    obtain ⟨i, hi⟩ := hg x' hx'
    obtain ⟨s, x, -, h2, -, h4, -⟩ := least_get hR hL hi
    rw [h4]
    exact hR.rn x (List.mem_of_getElem? h2)
/-- By the least book all marks lead to the same ranks. -/
theorem least_rho {mk : List ByteArray} {bg : Nat} {cl cl' : List Cl} (hR : RightB mk bg cl) (hL : cl'.map Cl.key = (d2C mk.length cl bg).map (clL mk.length cl bg)) {u : List Nat} (hu : valid mk.length u) :
    rho (nxC cl') (rkL cl') 0 u = rho (nxC cl) (rkL cl) bg u := by
  obtain ⟨seen, hD⟩ := d2_done hR
  have hget : ∀ (i : Nat) p, (bfsB (nxL mk.length cl bg) mk.length (stC mk.length cl bg) (List.range cl.length).length)[i]? = some p → (d2C mk.length cl bg)[i]? = some p.1 := by
    intro i p hp
    unfold d2C
    rw [List.getElem?_map, hp]
    rfl
  have h := ((mini_of hR).least hD (numC (d2C mk.length cl bg)) (fun i p hp => numC_get (d2_one hR) (hget i p hp)) (nxC cl') (rkL cl') (fun i p hp a ha => least_nx hR hL (hget i p hp) ha) (fun i p hp => least_rk hR hL (hget i p hp)) _ u rfl hu).2
  rw [numC_get (d2_one hR) (d2_first hR)] at h
  exact h
/-- A book and its least one are never told apart. -/
theorem dist_least {mk : List ByteArray} {bg : Nat} {cl cl' : List Cl} (hR : RightB mk bg cl) (hL : cl'.map Cl.key = (d2C mk.length cl bg).map (clL mk.length cl bg)) : distC mk.length cl cl' bg 0 = none := by
  have hR' := least_right hR hL
  have hf := bfs_find (next := bothC cl cl') (m := mk.length) (b := (bg, 0)) (pairsU cl.length cl'.length) (mem_pairsU.2 ⟨bg_lt hR, bg_lt hR'⟩) (pairs_closed hR hR') (dif cl cl')
  simp only [runW_both] at hf
  unfold distC
  cases ho : (bfsB (bothC cl cl') mk.length (bg, 0) (pairsU cl.length cl'.length).length).find? fun p => dif cl cl' p.1 with
  | none => rfl
  | some p =>
    rw [ho] at hf
    obtain ⟨h2, -, h3, -⟩ := hf
    rw [dif_rkL] at h2
    simp only [ne_eq, decide_eq_true_eq] at h2
    exact absurd (least_rho hR hL h3).symm h2
/-- What tells two books apart tells their least ones apart. -/
theorem dist_leasts {mk : List ByteArray} {b b2 : Nat} {cl cl2 cl' cl2' : List Cl} (hR : RightB mk b cl) (hR2 : RightB mk b2 cl2) (hL : cl'.map Cl.key = (d2C mk.length cl b).map (clL mk.length cl b)) (hL2 : cl2'.map Cl.key = (d2C mk.length cl2 b2).map (clL mk.length cl2 b2)) : distC mk.length cl' cl2' 0 0 = distC mk.length cl cl2 b b2 := by
  have hR' := least_right hR hL
  have hR2' := least_right hR2 hL2
  have h := dist_same (m := mk.length) (n2 := 0) (n3 := 0) (n4 := 0) (nx := nxC cl) (rk := rkL cl) (b := b) (nx2 := nxC cl2) (nx3 := nxC cl') (nx4 := nxC cl2') (rk2 := rkL cl2) (rk3 := rkL cl') (rk4 := rkL cl2') (b2 := b2) (b3 := 0) (b4 := 0)
    (U := pairsU cl.length cl2.length) (V := pairsU cl'.length cl2'.length) (mem_pairsU.2 ⟨bg_lt hR, bg_lt hR2⟩) (pairs_closed hR hR2) (mem_pairsU.2 ⟨bg_lt hR', bg_lt hR2'⟩) (pairs_closed hR' hR2') (fun u hu => (least_rho hR hL hu).symm) (fun u hu => (least_rho hR2 hL2 hu).symm)
  unfold distC
  have e : ∀ (c d : List Cl), (fun (p : (Nat × Nat) × List Nat) => dif c d p.1) = fun p => decide (rkL c p.1.1 ≠ rkL d p.1.2) := fun c d => funext fun p => dif_rkL c d p.1
  rw [e, e]
  exact h.symm
/-- Books that nothing tells apart have least ones of as many classes. -/
theorem lens_leasts {mk : List ByteArray} {b b2 : Nat} {cl cl2 cl' cl2' : List Cl} (hR : RightB mk b cl) (hR2 : RightB mk b2 cl2) (hL : cl'.map Cl.key = (d2C mk.length cl b).map (clL mk.length cl b)) (hL2 : cl2'.map Cl.key = (d2C mk.length cl2 b2).map (clL mk.length cl2 b2)) (hd : distC mk.length cl cl2 b b2 = none) : cl'.length = cl2'.length := by
  have hf := bfs_find (next := bothC cl cl2) (m := mk.length) (b := (b, b2)) (pairsU cl.length cl2.length) (mem_pairsU.2 ⟨bg_lt hR, bg_lt hR2⟩) (pairs_closed hR hR2) (dif cl cl2)
  simp only [runW_both] at hf
  unfold distC at hd
  rw [Option.map_eq_none_iff] at hd
  rw [hd] at hf
  obtain ⟨seen, hD⟩ := d2_done hR
  obtain ⟨seen2, hD2⟩ := d2_done hR2
  have h := (mini_of hR).lens (mini_of hR2) (fun u hu => by
    have := hf u hu
    rw [dif_rkL] at this
    simp only [ne_eq, decide_eq_false_iff_not, Decidable.not_not] at this
    exact this) hD hD2
  rw [least_len hL, least_len hL2]
  unfold d2C
  rw [List.length_map, List.length_map]
  exact h
theorem rank_same {mk : List ByteArray} {bg : Nat} {cl cl' : List Cl} (hR : RightB mk bg cl) (hL : cl'.map Cl.key = (d2C mk.length cl bg).map (clL mk.length cl bg)) {u : List Nat} (hu : valid mk.length u) :
    rkS (clN cl (runW (nxC cl) bg u)) = rkS (clN cl' (runW (nxC cl') 0 u)) := by
  have h := least_rho hR hL hu
  have h1 := runW_lt hR u bg (bg_lt hR) hu
  have h2 := runW_lt (least_right hR hL) u 0 (bg_lt (least_right hR hL)) hu
  unfold rho rkL rkC at h
  unfold clN
  rw [List.getElem?_eq_getElem h1, List.getElem?_eq_getElem h2] at h ⊢
  dsimp only at h ⊢
  rw [ByteArray.toList_eq, ByteArray.toList_eq] at h
  exact ByteArray.ext (Array.toList_inj.1 h.symm)
end Go.Proofs

set_option linter.unusedSimpArgs false
set_option linter.unusedVariables false
namespace Go.Proofs
open Go.RowKit
section
variable {P : Program}
/-! A drawn region: two calls hand back memory of their own, a third takes what both gave; all else is quiet. -/
theorem region_ccq {id : Nat} {Q : Exit → Act → World → Prop} {a0 : Act} {w : World} {l : List Oper} (w0 : World) (c d q : Nat) (mkc mkd mkq : Gh → Value) (Pr Pd Pq : Gh → World → Prop) (af : (Nat → Gh) → Act) (hm : P.follows .mixedOrders = true)
    (hB : slotsOk l.toArray = true) (hB' : ∀ g, slotsOk (mixL [c, d, q] (fun j h => if j == c then mkc h else if j == d then mkd h else mkq h) g 0 l).toArray = true) (hS : Region.noSelect l.toArray = true) (hN : spB l.toArray [c, d, q] = true) (hne : q ≠ c ∧ q ≠ d ∧ d ≠ c)
    (ht : (match l[q]? with | some o => o.after.any (fun e => Region.binds .any e && e.on == c) && o.after.any (fun e => Region.binds .any e && e.on == d) | none => false) = true)
    (hw : Below w0.heap.size w0 w)
    (hs1 : ∀ h x x', Pr h x → Below x.heap.size x x' → Pr h x') (hs2 : ∀ h x x', Pd h x → Below x.heap.size x x' → Pd h x') (hs3 : ∀ h x x', Pq h x → Below x.heap.size x x' → Pq h x')
    (hq : ∀ g u, Below w.heap.size w u → (∀ (x : Grew u) (b o : Nat), b < u.heap.size → x.val.cell? ⟨b, o, none⟩ = u.cell? ⟨b, o, none⟩) → Hid (∀ x : Grew u, Below w0.heap.size w0 x.val) → Hid (∀ x : Grew u, Below w.heap.size w x.val) →
      wpQuiet P (mixL [c, d, q] (fun j h => if j == c then mkc h else if j == d then mkd h else mkq h) g 0 l).toArray (fun w' => ∃ x : Grew u, w' = x.val) (fun a' => a' = af g) (mixL [c, d, q] (fun j h => if j == c then mkc h else if j == d then mkd h else mkq h) g 0 l) a0)
    (hind : ∀ j ∈ [c, d, q], ∀ g h, maskL (coneS l.toArray j 0 l []) 0 (af g).tmps.toList = maskL (coneS l.toArray j 0 l []) 0 (af (upd g j h)).tmps.toList)
    (hcp : ∀ o, l[c]? = some o → ∀ (g : Nat → Gh) (x : World), Below w.heap.size w x → Below w0.heap.size w0 x → ∃ f args, (execOp (af g).eval o).run P x = .ok (.enter f args) x ∧ Calls P f args x fun e x' => ∃ h, e = .returned (mkc h) ∧ Pr h x' ∧ Below x.heap.size x x')
    (hdp : ∀ o, l[d]? = some o → ∀ (g : Nat → Gh) (x : World), Below w.heap.size w x → Below w0.heap.size w0 x → ∃ f args, (execOp (af g).eval o).run P x = .ok (.enter f args) x ∧ Calls P f args x fun e x' => ∃ h, e = .returned (mkd h) ∧ Pd h x' ∧ Below x.heap.size x x')
    (hcl : ∀ o, l[q]? = some o → ∀ (g : Nat → Gh) (x : World), Below w.heap.size w x → Below w0.heap.size w0 x → Pr (g c) x → Pd (g d) x → ∃ f args, (execOp (af g).eval o).run P x = .ok (.enter f args) x ∧ Calls P f args x fun e x' => ∃ h, e = .returned (mkq h) ∧ Pq h x' ∧ Below x.heap.size x x')
    (hend : ∀ (g : Nat → Gh) (x : World), Below w.heap.size w x → Below w0.heap.size w0 x → Pq (g q) x → Q .normal (af g) x) :
    (Code.region id l.toArray true).wp P Q a0 w := by
  obtain ⟨n1, n2, n3⟩ := hne
  refine region_mix w0 [c, d, q] (fun j h => if j == c then mkc h else if j == d then mkd h else mkq h) (fun L g x => (L c = true → Pr (g c) x) ∧ (L d = true → Pd (g d) x) ∧ (L q = true → Pq (g q) x)) af hm hB hB' hS hN hw ?_ ?_ hq hind ?_ ?_
  · intro L h
    have a1 := h c (by simp)
    have a2 := h d (by simp)
    have a3 := h q (by simp)
    exact ⟨fun h => (by rw [a1] at h; cases h), fun h => (by rw [a2] at h; cases h), fun h => (by rw [a3] at h; cases h)⟩
  · rintro L L' g x x' h ⟨h1, h2, h3⟩ hb
    rw [h c (by simp), h d (by simp), h q (by simp)]
    exact ⟨fun h => hs1 _ _ _ (h1 h) hb, fun h => hs2 _ _ _ (h2 h) hb, fun h => hs3 _ _ _ (h3 h) hb⟩
  · intro j hj o ho L g x ⟨h1, h2, h3⟩ hbx hb0 hL hafter
    simp only [List.mem_cons, List.not_mem_nil, or_false] at hj
    rcases hj with rfl | rfl | rfl
    · obtain ⟨f, args, r1, r2⟩ := hcp o ho g x hbx hb0
      refine does_enter r1 (r2.mono ?_)
      rintro e x' ⟨h, rfl, hp, hb⟩
      refine ⟨_, rfl, via hbx hb, .inr ⟨h, by simp, fun _ => ?_, fun hl => ?_, fun hl => ?_⟩⟩
      · rw [upd_self]; exact hp
      · rw [setL_ne n3] at hl
        rw [upd_ne n3]
        exact hs2 _ _ _ (h2 hl) hb
      · rw [setL_ne n1] at hl
        rw [upd_ne n1]
        exact hs3 _ _ _ (h3 hl) hb
    · obtain ⟨f, args, r1, r2⟩ := hdp o ho g x hbx hb0
      refine does_enter r1 (r2.mono ?_)
      rintro e x' ⟨h, rfl, hp, hb⟩
      refine ⟨_, rfl, via hbx hb, .inr ⟨h, by simp [n3], fun hl => ?_, fun _ => ?_, fun hl => ?_⟩⟩
      · rw [setL_ne (Ne.symm n3)] at hl
        rw [upd_ne (Ne.symm n3)]
        exact hs1 _ _ _ (h1 hl) hb
      · rw [upd_self]; exact hp
      · rw [setL_ne n2] at hl
        rw [upd_ne n2]
        exact hs3 _ _ _ (h3 hl) hb
    · rw [ho] at ht
      simp only [Bool.and_eq_true] at ht
      have after : ∀ k, o.after.any (fun e => Region.binds .any e && e.on == k) = true → L k = true := by
        intro k hk
        obtain ⟨e, he, hb⟩ := Array.any_eq_true'.1 hk
        simp only [Bool.and_eq_true, beq_iff_eq] at hb
        have hc := hafter e he hb.1
        rw [hb.2] at hc
        exact hc
      have hc := after c ht.1
      have hd := after d ht.2
      obtain ⟨f, args, r1, r2⟩ := hcl o ho g x hbx hb0 (h1 hc) (h2 hd)
      refine does_enter r1 (r2.mono ?_)
      rintro e x' ⟨h, rfl, hp, hb⟩
      refine ⟨_, rfl, via hbx hb, .inr ⟨h, by simp [n1, n2], fun hl => ?_, fun hl => ?_, fun _ => ?_⟩⟩
      · rw [upd_ne (Ne.symm n1)]
        exact hs1 _ _ _ (h1 hc) hb
      · rw [upd_ne (Ne.symm n2)]
        exact hs2 _ _ _ (h2 hd) hb
      · rw [upd_self]; exact hp
  · rintro g x ⟨h1, h2, h3⟩ hbx hb0
    exact hend g x hbx hb0 (h3 rfl)
end
end Go.Proofs

set_option linter.unusedSimpArgs false
set_option linter.unusedVariables false
namespace Go.Proofs
open Go.RowKit

/-! The law of ranges over a function whose iterator keeps state in cells that were there ahead of the range (blocks O). -/
/-- What is said abides whatever happens to blocks from 'B' on, but those of 'T' and those that were given away. -/
def AbideO {α : Type} (gv : α → Nat → Prop) (O : Nat → Prop) (B : Nat) (J : List α → (Nat → Prop) → World → Prop) : Prop :=
  ∀ s T W W' row, J s T W → W.grownBy W' row → (∀ r, row = some r → (B ≤ r ∨ O r) ∧ ¬ T r ∧ ∀ x ∈ s, ¬ gv x r) → J s T W'
/-- AN ITERATOR's CONTRACT. -/
def StopsO {α : Type} (F : Fence) (n : Nat) (P : Program) (g : Nat) (lb : Array Value) (encs : α → Array Value) (gv : α → Nat → Prop) (O M : Nat → Prop) (Ok : List α → α → World → Prop) (S Sp : List α → Prop) (N : Nat) (w : World) : Prop :=
  ∀ (l : Nat) (J Jx : List α → (Nat → Prop) → World → Prop) (W : World), Below w.heap.size w W → w.heap.size ≤ l → l < W.heap.size → AbideO gv O W.heap.size J → AbideO gv O W.heap.size Jx →
    (∀ pre T x W1, J pre T W1 → (∀ r, T r → W.heap.size ≤ r ∧ r < W1.heap.size) → (∀ y ∈ pre ++ [x], ∀ r, gv y r → W.heap.size ≤ r) → pre.length < N → Ok pre x W1 → YieldAt F (n - 1) P l (encs x) W1 fun e W' =>
      ∃ T', (∀ r, T' r → T r ∨ W1.heap.size ≤ r) ∧ (∀ r, T' r → r < W'.heap.size) ∧ Lie (fun k => M k ∨ T k ∨ k = l) W1 W' ∧
        ((e = .returned (.bool true) ∧ J (pre ++ [x]) T' W') ∨ (e = .returned (.bool false) ∧ Jx (pre ++ [x]) T' W'))) →
    J [] (fun _ => False) W →
    CallsIn F n P g (#[.func (.yield l) #[] #[]] ++ lb) W fun e W' => (∃ v, e = .returned v) ∧ ((∃ xs T, S xs ∧ J xs T W') ∨ (∃ pre T, Sp pre ∧ Jx pre T W'))

variable {F : Fence} {n : Nat} {P : Program}
theorem wp_rangeO {α : Type} {g : Operand} {ps : Array Tmp} {assign body : Code} {Q : Exit → Act → World → Prop} {a : Act} {w : World}
    (hro : F.round = none) (h1 : 1 ≤ n) {gf : Nat} {lb : Array Value} (hg : a.eval g = .func (.func gf) #[] lb) (hFg : F.fn gf) (eg : ∀ args w, (callFunc gf args).run P w = .ok (.enter gf args) w)
    {encs : α → Array Value} {gv : α → Nat → Prop} {O M : Nat → Prop} {Ok : List α → α → World → Prop} {S Sp : List α → Prop} {N : Nat} (hseq : StopsO F (n - 1) P gf lb encs gv O M Ok S Sp N w) (hM : ∀ k, M k → k < w.heap.size) (hOw : ∀ k, O k → k < w.heap.size)
    (hps : ∀ x, (encs x).size = ps.size)
    (I : List α → (Nat → Prop) → World → Prop) (Ix : Code → List α → (Nat → Prop) → World → Prop) (Ax : List α → (Nat → Prop) → α → Act → World → Prop)
    (hI : AbideO gv O w.heap.size I) (hIx : ∀ c, AbideO gv O w.heap.size (Ix c))
    (hAx : ∀ pre T x a (W : World) (l : Nat) (o o' : Obj), w.heap.size ≤ l → ¬ T l → (∀ y ∈ pre ++ [x], ¬ gv y l) → W.heap[l]? = some o → o.isCells = false → Ax pre T x a W → Ax pre T x a (W.putObj l o')) (h0 : I [] (fun _ => False) w)
    (hassign : ∀ (l : Nat) (pre : List α) (T : Nat → Prop) (x : α) (W : World), I pre T W → (∀ r, T r → w.heap.size ≤ r ∧ r < W.heap.size) → pre.length < N → Ok pre x W → (∀ y ∈ pre ++ [x], ∀ r, gv y r → w.heap.size ≤ r) →
      assign.wpIn (F.inRound l) (n - 1 - 1) P (Exit.then (fun a₁ W₁ => Lie (fun k => M k ∨ T k) W W₁ ∧ Ax pre T x a₁ W₁) (fun _ _ _ => False)) { tmps := (ps.zip (encs x)).foldl (fun t (p, v) => t.setIfInBounds p v) a.tmps, defers := [] } W)
    (hbody : ∀ (l : Nat) (pre : List α) (T : Nat → Prop) (x : α) (a₁ : Act) (W : World), Ax pre T x a₁ W → (∀ r, T r → w.heap.size ≤ r ∧ r < W.heap.size) → pre.length < N → body.wpIn (F.inRound l) (n - 1 - 1) P (outW M T I Ix (pre ++ [x]) W) a₁ W)
    (hdone : ∀ (D : Nat) (xs : List α) (T : Nat → Prop) (W : World), S xs → I xs T W → D = w.heap.size → W.heap[D]? = some (.deferred (some [])) → Q .normal { a with defers := { target := .collected D, args := #[] } :: a.defers } W)
    (hstop : ∀ (D : Nat) (c : Code) (pre : List α) (T : Nat → Prop) (W : World), Sp pre → Ix c pre T W → D = w.heap.size → W.heap[D]? = some (.deferred (some [])) → c.wpIn F n P Q { a with defers := { target := .collected D, args := #[] } :: a.defers } W) :
    (Code.rangeFunc g ps assign body).wpIn F n P Q a w := by
  refine wpIn_rangeFunc ?_
  intro fn hfn
  rw [hro]
  obtain ⟨rec, hrec⟩ : ∃ rec : LoopState → Option Code → Loop, rec = fun st pe => { state := st, pending := pe, fn, tmps := a.tmps, params := ps, assign, body, defers := w.heap.size } := ⟨_, rfl⟩
  obtain ⟨W1, hW1⟩ : ∃ W1, (w.alloc (.deferred (some []))).alloc (.loop (rec .ready none)) = W1 := ⟨_, rfl⟩
  have hsz1 : W1.heap.size = w.heap.size + 2 := by rw [← hW1]; simp
  have hL1 : W1.heap[w.heap.size + 1]? = some (.loop (rec .ready none)) := by
    rw [← hW1]; have := World.alloc_heap_new (w.alloc (.deferred (some []))) (.loop (rec .ready none)); rwa [World.size_alloc] at this
  have hK1 : W1.heap[w.heap.size]? = some (.deferred (some [])) := by
    rw [← hW1]; exact (Below.heap_alloc _ _ _ (by simp)).trans (World.alloc_heap_new w _)
  have hI1 : I [] (fun _ => False) W1 := by
    rw [← hW1]
    refine hI _ _ _ _ none (hI _ _ _ _ none h0 (World.grownBy_alloc w _ none) (fun r e => by cases e)) (World.grownBy_alloc _ _ none) (fun r e => by cases e)
  have hb1 : Below w.heap.size w W1 := by
    rw [← hW1]; exact ((Below.refl _ w).alloc (Nat.le_refl _) _).alloc (by simp) _
  refine ⟨w.heap.size + 1, [{ target := .collected w.heap.size, args := #[] }], W1, { target := .fn (.func gf) lb, args := #[.func (.yield (w.heap.size + 1)) #[] #[]] }, W1, gf,
    #[.func (.yield (w.heap.size + 1)) #[] #[]] ++ lb, W1, ?_, ?_, ?_, ?_, fun _ => h1, ?_⟩
  · rw [← hW1, hrec]; exact run_enterLoop_outer _ _ _ _ _
  · simp only [resolve, hg]
    simp [go_sem]
  · intro f' hf'; simp [Target.leads] at hf'; subst hf'; exact hFg
  · simp [invoke, go_sem, eg]
  · have keep : ∀ {A B : World} {row : Option Nat} {k : Nat} {o : Obj}, A.grownBy B row → (∀ r, row = some r → W1.heap.size ≤ r ∨ O r) → k < w.heap.size + 2 → w.heap.size ≤ k → A.heap[k]? = some o → B.heap[k]? = some o := fun hg' hr hk hk2 ho => by
      rw [hg'.block _ (Array.getElem?_eq_some_iff.1 ho).1 (fun e => by
        rcases hr _ e.symm with h | h
        · omega
        · have := hOw _ h
          omega), ho]
    have putI : ∀ {K : List α → (Nat → Prop) → World → Prop}, AbideO gv O w.heap.size K → ∀ {s T W} (o : Obj), K s T W → (∀ r, T r → w.heap.size + 2 ≤ r) → (∀ y ∈ s, ∀ r, gv y r → w.heap.size + 2 ≤ r) → K s T (W.putObj (w.heap.size + 1) o) := fun hK s T W o hs ht hv =>
      hK _ _ _ _ _ hs (grownBy_putObj' W _ o) fun r e => by
        cases e
        exact ⟨.inl (by omega), fun h => by have := ht _ h; omega, fun y hy h => by have := hv y hy _ h; omega⟩
    refine (hseq (w.heap.size + 1)
      (fun pre T W => I pre T W ∧ W.heap[w.heap.size + 1]? = some (.loop (rec .ready none)) ∧ W.heap[w.heap.size]? = some (.deferred (some [])) ∧ (∀ r, T r → w.heap.size + 2 ≤ r) ∧ (∀ y ∈ pre, ∀ r, gv y r → w.heap.size + 2 ≤ r))
      (fun pre T W => ∃ c, Ix c pre T W ∧ W.heap[w.heap.size + 1]? = some (.loop (rec .done (some c))) ∧ W.heap[w.heap.size]? = some (.deferred (some [])) ∧ (∀ r, T r → w.heap.size + 2 ≤ r) ∧ (∀ y ∈ pre, ∀ r, gv y r → w.heap.size + 2 ≤ r))
      W1 hb1 (by omega) (by omega)
      (fun s T A B row hs hg' hr => ⟨hI s T A B row hs.1 hg' (fun r e => by have := hr r e; exact ⟨this.1.imp (fun h => by omega) id, this.2⟩), keep hg' (fun r e => (hr r e).1) (by omega) (by omega) hs.2.1, keep hg' (fun r e => (hr r e).1) (by omega) (by omega) hs.2.2.1, hs.2.2.2⟩)
      (fun s T A B row hs hg' hr => by
        obtain ⟨c, hc, hl, hk, hts⟩ := hs
        exact ⟨c, hIx c s T A B row hc hg' (fun r e => by have := hr r e; exact ⟨this.1.imp (fun h => by omega) id, this.2⟩), keep hg' (fun r e => (hr r e).1) (by omega) (by omega) hl, keep hg' (fun r e => (hr r e).1) (by omega) (by omega) hk, hts⟩)
      ?_ ⟨hI1, hL1, hK1, fun r h => h.elim, fun y hy => by cases hy⟩).mono ?_
    · rintro pre T x W ⟨hi, hl, hk, hTs, hvs⟩ hT hgv hlen hokx
      have hy := run_yield (P := P) (args := encs x) hl (by rw [hrec]; exact hps x)
      rw [hrec] at hy
      have hT2 : ∀ r, T r → w.heap.size ≤ r ∧ r < W.heap.size := fun r h => ⟨by have := hTs r h; omega, (hT r h).2⟩
      have hgv2 : ∀ y ∈ pre ++ [x], ∀ r, gv y r → w.heap.size + 2 ≤ r := fun y hy r h => by have := hgv y hy r h; omega
      have hlM : ¬ (M (w.heap.size + 1) ∨ T (w.heap.size + 1)) := by
        rintro (h | h)
        · have := hM _ h; omega
        · have := hTs _ h; omega
      have hDM : ¬ (M w.heap.size ∨ T w.heap.size) := by
        rintro (h | h)
        · have := hM _ h; omega
        · have := hTs _ h; omega
      refine ⟨fn, _, assign, body, hy, roundIn_of_wpIn hfn (wpIn_mono (hassign _ pre T x W hi hT2 hlen hokx (fun y hy r h => by have := hgv2 y hy r h; omega)) ?_)⟩
      rintro e a2 W2 hp
      cases e with
      | normal =>
        obtain ⟨ko, hx⟩ := hp
        have hl2 := ko.obj hlM hl
        have hk2 := ko.obj hDM hk
        have hlt : w.heap.size + 1 < W2.heap.size := (Array.getElem?_eq_some_iff.1 hl2).1
        have hl3 : (W2.putObj (w.heap.size + 1) (.loop { rec .ready none with state := .busy })).heap[w.heap.size + 1]? = some (.loop { rec .ready none with state := .busy }) := World.putObj_heap_same hlt
        have hk3 : (W2.putObj (w.heap.size + 1) (.loop { rec .ready none with state := .busy })).heap[w.heap.size]? = some (.deferred (some [])) := (World.putObj_heap_other (by omega)).trans hk2
        refine ⟨_, run_beginRound hl2 (by rw [hrec]), ?_⟩
        refine wpIn_mono (hbody _ pre T x a2 _ (hAx pre T x a2 _ _ _ _ (by omega) (fun h => hlM (.inr h)) (fun y hy h => by have := hgv2 y hy _ h; omega) hl2 rfl hx) (fun r h => ⟨(hT2 r h).1, by rw [World.putObj_size]; exact Nat.lt_of_lt_of_le (hT2 r h).2 ko.size⟩) hlen) ?_
        have st : Lie (fun k => M k ∨ T k ∨ k = w.heap.size + 1) W (W2.putObj (w.heap.size + 1) (.loop { rec .ready none with state := .busy })) :=
          (ko.mono (fun k _ h => by rcases h with h | h; exact .inl h; exact .inr (.inl h))).trans (Lie.putObj _ _ _ (.inr (.inr rfl)))
        have fin : ∀ (jump : Option Code) (W3 : World), Lie (fun k => M k ∨ T k) (W2.putObj (w.heap.size + 1) (.loop { rec .ready none with state := .busy })) W3 →
            (Instr.endRound (w.heap.size + 1) jump).run P W3 = .ok (.bool jump.isNone) (W3.putObj (w.heap.size + 1) (.loop (rec (if jump.isNone then .ready else .done) jump))) ∧
            (W3.putObj (w.heap.size + 1) (.loop (rec (if jump.isNone then .ready else .done) jump))).heap[w.heap.size + 1]? = some (.loop (rec (if jump.isNone then .ready else .done) jump)) ∧
            (W3.putObj (w.heap.size + 1) (.loop (rec (if jump.isNone then .ready else .done) jump))).heap[w.heap.size]? = some (.deferred (some [])) ∧
            Lie (fun k => M k ∨ T k ∨ k = w.heap.size + 1) W (W3.putObj (w.heap.size + 1) (.loop (rec (if jump.isNone then .ready else .done) jump))) := fun jump W3 hk4 => by
          have hl4 := hk4.obj hlM hl3
          have := run_endRound (P := P) jump hl4
          rw [hrec] at this ⊢
          refine ⟨this, World.putObj_heap_same (Array.getElem?_eq_some_iff.1 hl4).1, (World.putObj_heap_other (by omega)).trans (hk4.obj hDM hk3), ?_⟩
          rw [hrec] at st
          rw [hrec] at hk4
          exact (st.trans (hk4.mono (fun k _ h => by rcases h with h | h; exact .inl h; exact .inr (.inl h)))).trans (Lie.putObj _ _ _ (.inr (.inr rfl)))
        have hsW : W.heap.size ≤ (W2.putObj (w.heap.size + 1) (.loop { rec .ready none with state := .busy })).heap.size := by rw [World.putObj_size]; exact ko.size
        have hTr : ∀ T' : Nat → Prop, (∀ r, T' r → T r ∨ (W2.putObj (w.heap.size + 1) (.loop { rec .ready none with state := .busy })).heap.size ≤ r) → ∀ r, T' r → w.heap.size + 2 ≤ r := fun T' h r hr => by
          rcases h r hr with h | h
          · exact hTs r h
          · have := ko.size
            rw [World.putObj_size] at h
            have : W1.heap.size ≤ W.heap.size ∨ True := .inr trivial
            have := (Array.getElem?_eq_some_iff.1 hl2).1
            omega
        rintro e a3 W3 hp
        cases e with
        | normal =>
          obtain ⟨T', t1, t2, hk4, hi3⟩ := hp
          obtain ⟨hr, hl4, hk5, hli⟩ := fin none W3 hk4
          have ht := hTr T' t1
          exact ⟨_, _, hr, T', fun r h => (t1 r h).imp id (Nat.le_trans hsW), fun r h => by rw [World.putObj_size]; exact t2 r h, hli, .inl ⟨rfl, putI hI _ hi3 ht hgv2, hl4, hk5, ht, hgv2⟩⟩
        | ret =>
          obtain ⟨T', t1, t2, hk4, hi3⟩ := hp
          obtain ⟨hr, hl4, hk5, hli⟩ := fin (some .ret) W3 hk4
          have ht := hTr T' t1
          exact ⟨_, _, hr, T', fun r h => (t1 r h).imp id (Nat.le_trans hsW), fun r h => by rw [World.putObj_size]; exact t2 r h, hli, .inr ⟨rfl, .ret, putI (hIx _) _ hi3 ht hgv2, hl4, hk5, ht, hgv2⟩⟩
        | exit id =>
          obtain ⟨T', t1, t2, hk4, hi3⟩ := hp
          obtain ⟨hr, hl4, hk5, hli⟩ := fin (some (.exit id)) W3 hk4
          have ht := hTr T' t1
          exact ⟨_, _, hr, T', fun r h => (t1 r h).imp (fun h => h) (Nat.le_trans hsW), fun r h => by rw [World.putObj_size]; exact t2 r h, hli, .inr ⟨rfl, .exit id, putI (hIx _) _ hi3 ht hgv2, hl4, hk5, ht, hgv2⟩⟩
        | goto t =>
          obtain ⟨T', t1, t2, hk4, hi3⟩ := hp
          obtain ⟨hr, hl4, hk5, hli⟩ := fin (some (.goto t)) W3 hk4
          have ht := hTr T' t1
          exact ⟨_, _, hr, T', fun r h => (t1 r h).imp id (Nat.le_trans hsW), fun r h => by rw [World.putObj_size]; exact t2 r h, hli, .inr ⟨rfl, .goto t, putI (hIx _) _ hi3 ht hgv2, hl4, hk5, ht, hgv2⟩⟩
        | panic ch => exact hp.elim
        | outgrown => exact hp.elim
      | _ => exact hp.elim
    · rintro e W2 ⟨⟨v, rfl⟩, (⟨xs, T, hS, hi, hl, hk, ht, hv⟩ | ⟨pre, T, hSp, c, hi, hl, hk, ht, hv⟩)⟩
      · exact ⟨none, _, by have := run_endLoop (P := P) hl (by rw [hrec]; simp); rw [hrec] at this; exact this, hdone _ xs T _ hS (putI hI _ hi ht hv) rfl ((World.putObj_heap_other (by omega)).trans hk)⟩
      · exact ⟨some c, _, by have := run_endLoop (P := P) hl (by rw [hrec]; simp); rw [hrec] at this; exact this, hstop _ c pre T _ hSp (putI (hIx c) _ hi ht hv) rfl ((World.putObj_heap_other (by omega)).trans hk)⟩

end Go.Proofs
