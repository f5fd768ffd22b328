import Derived.Test.YtpmliaildjomeaaGreatDoorMg20
import Derived.Test.YtpmliaildjomeaaGreatDoorMg15
import Derived.Test.YtpmliaildjomeaaGreatDoorMg19
import Derived.Test.YtpmliaildjomeaaGreatDoorMg13
import Derived.Deep.LoopGhost
set_option linter.unusedSimpArgs false
set_option linter.unusedVariables false
namespace Go.Proofs
open Go.RowKit

theorem ones_step {n k : Nat} (h : k < n) : (List.replicate k (1 : Int) ++ List.replicate (n - k) 0).set k 1 = List.replicate (k + 1) 1 ++ List.replicate (n - (k + 1)) 0 := by
  obtain ⟨r, hr⟩ : ∃ r, n - k = r + 1 := ⟨n - k - 1, by omega⟩
  rw [hr, show n - (k + 1) = r by omega, List.set_append_right _ _ (by simp), List.length_replicate, Nat.sub_self, List.replicate_succ, List.replicate_succ' (n := k)]
  simp
theorem unit_set {n i : Nat} (h : i < n) : (List.replicate n (0 : Int)).set i 1 = unitL n i := by
  apply List.ext_getElem?
  intro j
  rw [List.getElem?_set]
  unfold unitL
  rw [List.getElem?_map]
  by_cases hj : j < n
  · rw [List.getElem?_range hj]
    by_cases hji : i = j
    · subst hji
      simp [h]
    · have : ¬ j = i := fun e => hji e.symm
      simp [hji, this, List.getElem?_replicate, hj]
  · rw [List.getElem?_eq_none (by simp; omega)]
    have : i ≠ j := by omega
    simp [this, hj]
theorem mixRows_small {es : List En} {np : Nat} (h : RightE es np) (z t : List Nat) : SmallR (mixRows np (exs es) z t) := by
  intro row hr
  simp only [mixRows, List.mem_cons, List.mem_append, List.mem_map] at hr
  rcases hr with rfl | ⟨i, -, rfl⟩ | ⟨i, -, rfl⟩
  · intro x hx; rw [List.eq_of_mem_replicate hx]; decide
  · intro x hx
    obtain ⟨j, -, rfl⟩ := List.mem_map.1 hx
    split <;> decide
  · intro x hx
    have hs := exs_small h i
    have hs2 : ((exs es).getD i default).2.natAbs ≤ 20 := by
      rw [List.getD_eq_getElem?_getD]
      cases hi : (exs es)[i]? with
      | none => simp [default, instInhabitedProd]
      | some x => exact h.exs_mo x (List.mem_of_getElem? hi)
    rcases List.mem_append.1 hx with hx | hx
    · obtain ⟨c, hc⟩ := List.mem_iff_getElem?.1 hx
      have := hs c
      rw [List.getD_eq_getElem?_getD, hc] at this
      exact Nat.le_trans this (by decide)
    · rw [List.mem_singleton] at hx
      subst hx
      exact Nat.le_trans hs2 (by decide)
theorem mixRows_len (np : Nat) (es : List Ex) (z t : List Nat) : (mixRows np es z t).length = z.length + t.length + 1 := by simp [mixRows]
theorem mixRows_row {np : Nat} {es : List En} (h : RightE es np) {z t : List Nat} (ht : ∀ i ∈ t, i < es.length) : ∀ row ∈ mixRows np (exs es) z t, row.length = np + 1 := by
  intro row hr
  simp only [mixRows, List.mem_cons, List.mem_append, List.mem_map] at hr
  rcases hr with rfl | ⟨i, -, rfl⟩ | ⟨i, hi, rfl⟩
  · simp
  · simp [unitL]
  · have hl := ht i hi
    rw [List.length_append, exs_get (List.getElem?_eq_getElem hl), (h.co _ (List.getElem_mem hl)).1]
    rfl
theorem any_neg {l : List Int} {k : Nat} (hk : k < l.length) (h : l.getD k 0 < 0) : l.any (· < 0) = true := by
  rw [List.any_eq_true]
  refine ⟨l[k], List.getElem_mem hk, ?_⟩
  rw [List.getD_eq_getElem?_getD, List.getElem?_eq_getElem hk] at h
  simpa using h
theorem no_neg {l : List Int} (h : ∀ k, k < l.length → ¬ l.getD k 0 < 0) : l.any (· < 0) = false := by
  rw [List.any_eq_false]
  intro x hx
  obtain ⟨k, hk, rfl⟩ := List.getElem_of_mem hx
  have := h k hk
  rw [List.getD_eq_getElem?_getD, List.getElem?_eq_getElem hk] at this
  simpa using this
theorem any_per {es : List Ex} {l : List Int} {den : Int} {k : Nat} (hk : k < es.length) (h : ¬ dotL (es.getD k default).1 l ≤ (es.getD k default).2 * den) : es.any (fun x => !decide (dotL x.1 l ≤ x.2 * den)) = true := by
  rw [List.any_eq_true]
  refine ⟨es[k], List.getElem_mem hk, ?_⟩
  rw [List.getD_eq_getElem?_getD, List.getElem?_eq_getElem hk] at h
  simpa using h
theorem no_per {es : List Ex} {l : List Int} {den : Int} (h : ∀ k, k < es.length → dotL (es.getD k default).1 l ≤ (es.getD k default).2 * den) : es.any (fun x => !decide (dotL x.1 l ≤ x.2 * den)) = false := by
  rw [List.any_eq_false]
  intro x hx
  obtain ⟨k, hk, rfl⟩ := List.getElem_of_mem hx
  have := h k hk
  rw [List.getD_eq_getElem?_getD, List.getElem?_eq_getElem hk] at this
  simpa using this
theorem RowsOwn.one {W : World} {base B n : Nat} {l : List Int} (h : IntsAt 3 W B l) (hb : base ≤ B) (hl : l.length = n) : RowsOwn (W.alloc (.cells #[.slice (some ⟨B, 0, none⟩) n n] 33 (0, 0))) base (.slice (some ⟨W.heap.size, 0, none⟩) 1 1) [⟨some ⟨B, 0, none⟩, n, l⟩] := by
  have hs := h.size
  refine ⟨⟨rfl, .inr ⟨W.heap.size, 1, _, rfl, by omega, bk_new _ _ rfl, Nat.le_refl _, by decide, rfl, ?_⟩⟩, fun x hx => ?_⟩
  · simp [hl]
  · rw [List.mem_singleton] at hx
    subst hx
    refine ⟨(h.alloc _).at', fun g hg => ?_⟩
    cases hg
    refine ⟨hb, by simp; omega, fun e => ?_⟩
    cases e
    exact Nat.lt_irrefl _ hs
def MixGot (q : Option (List Int × Int)) (np n0 : Nat) (e : Ending) (w' : World) : Prop := match q with
  | none => e = .returned (.tuple #[.agg #[.int .i64 0, .slice none 0 0], .bool false])
  | some (m, d) => ∃ A c, e = .returned (.tuple #[.agg #[.int .i64 d, .slice A np c], .bool true]) ∧ w'.ownsRow n0 3 1 (.slice A np c) np (m.map (Value.int .i64))
set_option maxRecDepth 100000 in
set_option maxHeartbeats 8000000 in
theorem mix_any (pA eA zA tA : Option Addr) (np pc en ec zn zc tn tc : Nat) (es : List En) (z t : List Nat) (w : World) (hR : RightE es np) (hE : EnsAt w eA es) (hen : es.length = en) (hZ : At 1 Zc w zA (natZ z)) (hzn : z.length = zn) (hT : At 1 Zc w tA (natZ t)) (htn : t.length = tn)
    (h5 : np ≤ 5) (hz : ∀ i ∈ z, i < np) (ht : ∀ i ∈ t, i < en) (hzt : z.length + t.length + 1 = np) :
    Calls Tryz.prog 84 #[.agg (basC (.slice pA np pc) (.slice eA en ec) (.slice zA zn zc) (.slice tA tn tc) z t).toArray] w fun e w' => MixGot (mixLP np (exs es) z t) np w.heap.size e w' ∧ Below w.heap.size w w' := by
  obtain ⟨BA, hBA⟩ : ∃ BA, (basC (.slice pA np pc) (.slice eA en ec) (.slice zA zn zc) (.slice tA tn tc) z t).toArray = BA := ⟨_, rfl⟩
  have hE8 := hR.n8
  have fZ := Lib.hid fun W (hb : Below w.heap.size w W) k (hk : k < zn) => zc_cell (hZ.below hb) (k := k) (by rw [natZ_len]; omega)
  have fT := Lib.hid fun W (hb : Below w.heap.size w W) k (hk : k < tn) => zc_cell (hT.below hb) (k := k) (by rw [natZ_len]; omega)
  have fE := Lib.hid fun W (hb : Below w.heap.size w W) i (hi : i < en) => (by
    have hi' : i < es.length := by omega
    obtain ⟨b, o, hA, hlt, hcc⟩ := (hE.below hb).1 i _ (List.getElem?_eq_getElem hi')
    have hx := List.getElem_mem hi'
    obtain ⟨h1, h2, h3⟩ := hR.co _ hx
    refine ⟨es[i], b, o, hA, hlt, h1, h2, h3, ?_, ?_, hcc 2 _ rfl, (hE.below hb).2 _ hx, exs_get (List.getElem?_eq_getElem hi'), List.getElem?_eq_getElem hi'⟩
    · simpa using hcc 0 _ rfl
    · have := hcc 1 _ rfl
      rw [h1] at this
      exact this :
    ∃ x : En, ∃ b o, eA = some ⟨b, o, none⟩ ∧ b < W.heap.size ∧ x.co.length = np ∧ Small 20 x.co ∧ x.mo.natAbs ≤ 20 ∧ W.cell? ⟨b, o + i * 3, none⟩ = some (.string x.nm) ∧ W.cell? ⟨b, o + i * 3 + 1, none⟩ = some (.slice x.A np x.c) ∧
      W.cell? ⟨b, o + i * 3 + 2, none⟩ = some (.int .i64 x.mo) ∧ At 1 Zc W x.A x.co ∧ (exs es).getD i default = (x.co, x.mo) ∧ es[i]? = some x)
  have hmk := run_mkInts (np + 1) (by omega)
  obtain ⟨N1, hN1⟩ : ∃ N1, np + 1 = N1 := ⟨_, rfl⟩
  rw [hN1] at hmk
  have hw1 : IntKind.i64.wrap ((np : Int) + 1) = (N1 : Int) := by rw [← hN1]; exact IntWalk.i64_in _ (by omega)
  have hN6 : N1 ≤ 6 := by omega
  have hN1' := Lib.hid hN1
  have hR' := Lib.hid hR
  have hen' := Lib.hid hen
  have hzn' := Lib.hid hzn
  have htn' := Lib.hid htn
  have hz' := Lib.hid hz
  have ht' := Lib.hid ht
  have hzt' := Lib.hid hzt
  have hBA' := Lib.hid hBA
  have hzl : zn ≤ 4 := by omega
  have hen8 : en ≤ 8 := by omega
  have htl : tn ≤ 4 := by omega
  rw [hBA]
  obtain ⟨i0, hi, hz0, hz1, hz2⟩ := info_parts Tryz.info3
  obtain ⟨i1, hj, hj0, hj1, hj2⟩ := info_parts Tryz.info31
  obtain ⟨X, hX⟩ : ∃ X, exs es = X := ⟨_, rfl⟩
  have hX' := Lib.hid hX
  rw [hX] at fE ⊢
  have hN0 : 0 < N1 := by omega
  have hba0 : BA[0]? = some (.slice pA np pc) := by rw [← hBA]; rfl
  clear hR hE hen hzn htn hz ht hzt hBA hZ hT hX hN1
  have c0 := Lib.hid fun (W : World) (h : W.heap[w.heap.size]? = some (.cells BA 160 (0, 0))) => (by
    have NB : W.heap[w.heap.size]? = some (.cells (basC (.slice pA np pc) (.slice eA en ec) (.slice zA zn zc) (.slice tA tn tc) z t).toArray 160 (0, 0)) := by rw [hBA'.out]; exact h
    exact ⟨bas_load NB (k := 0) rfl, bas_load NB (k := 1) rfl, bas_load NB (k := 2) rfl, bas_load NB (k := 3) rfl, bk_size h⟩ : W.cell? ⟨w.heap.size, 0, none⟩ = some (.slice pA np pc) ∧ W.cell? ⟨w.heap.size, 1, none⟩ = some (.slice eA en ec) ∧ W.cell? ⟨w.heap.size, 2, none⟩ = some (.slice zA zn zc) ∧ W.cell? ⟨w.heap.size, 3, none⟩ = some (.slice tA tn tc) ∧ w.heap.size < W.heap.size)
  go_enter Tryz.func84, Tryz.ntmps84
  go_wp2
  clear hba0
  go_loopw [33] (fun i wr => ∃ k : Nat, k ≤ N1 ∧ i = .int .i64 k ∧ Hid (IntsAt 3 wr (w.heap.size + 2) (List.replicate k 1 ++ List.replicate (N1 - k) 0)) ∧ wr.heap[w.heap.size]? = some (.cells BA 160 (0, 0)) ∧ wr.heap[w.heap.size + 1]? = some (.cells #[.int .i64 0, .slice none 0 0] 62 (0, 0)) ∧ Below w.heap.size w wr) (fun i _ => N1 - (intOf i).toNat)
  case atStart =>
    refine ⟨0, Nat.zero_le _, rfl, ?_, ?_, ?_, ?_⟩
    · have := IntsAt.new (T := 3) ((w.alloc (.cells BA 160 (0, 0))).alloc (.cells #[.int .i64 0, .slice none 0 0] 62 (0, 0))) (List.replicate N1 0)
      simp only [World.size_alloc] at this
      exact Lib.hid (by simpa using this)
    · (repeat (first | assumption | (refine bk_new _ _ ?_; (simp; done)) | refine bk_drew ?_ | refine bk_alloc ?_ _ | refine bk_set ?_ (by simp <;> omega) _))
    · (repeat (first | assumption | (refine bk_new _ _ ?_; (simp; done)) | refine bk_drew ?_ | refine bk_alloc ?_ _ | refine bk_set ?_ (by simp <;> omega) _))
    · go_grown
  case round =>
    obtain ⟨k, hk, rfl, hI, M0, M1, hbw⟩ := hrel
    have hs2 := hI.out.size
    by_cases hkn : k < N1
    · have hkI : (k : Int) < (N1 : Int) := by omega
      have ci := hI.out.loadD (k := k) (by simp; omega)
      have fi := hI.out.frozen k
      have hI2 := Lib.hid (hI.out.store k 1)
      rw [ones_step hkn] at hI2
      clear hmk
      go_wp2
      go_roundw
      case rel => exact ⟨k + 1, by omega, by go_num, hI2.out, bk_set M0 (by dsimp only; omega) _, bk_set M1 (by dsimp only; omega) _, hbw.setCell (by dsimp only; omega) _⟩
      case measure => first | (simp [intOf]; done) | (simp [intOf]; omega)
    · obtain rfl : N1 = k := by omega
      have hI1 := Lib.hid (show IntsAt 3 wr (w.heap.size + 2) (List.replicate N1 1) by simpa using hI.out)
      obtain ⟨d0, d1, d2, d3, d4⟩ := c0.out _ M0
      clear hI hkn
      go_wp2
      clear d0 d1 d2 d3 d4
      go_loopw [7, 45] (fun v7 i wr => ∃ (k : Nat) (xs : List IR), k ≤ zn ∧ i = .int .i64 k ∧ Hid (RowsOwn wr (w.heap.size + 2) v7 xs ∧ xs.map IR.l = List.replicate N1 1 :: (z.take k).map (unitL N1)) ∧ wr.heap[w.heap.size]? = some (.cells BA 160 (0, 0)) ∧ wr.heap[w.heap.size + 1]? = some (.cells #[.int .i64 0, .slice none 0 0] 62 (0, 0)) ∧ Below w.heap.size w wr) (fun _ i _ => zn - (intOf i).toNat)
      case atStart =>
        exact ⟨0, _, Nat.zero_le _, rfl, Lib.hid ⟨RowsOwn.one hI1.out (Nat.le_refl _) (by simp), by simp⟩, bk_alloc M0 _, bk_alloc M1 _, via hbw (new_below _ _)⟩
      case round =>
        clear hI1 M0 M1 hbw hs2
        obtain ⟨k, xs, hk, rfl, hrows, M0, M1, hbw⟩ := hrel
        have s0 := bk_size M0
        have s1 := bk_size M1
        by_cases hkn : k < zn
        · have hkI : (k : Int) < (zn : Int) := by omega
          obtain ⟨bz, oz, rfl, hbz, cz⟩ := fZ.out wr hbw k hkn
          obtain ⟨i, hi2⟩ : ∃ i, z[k]? = some i := ⟨_, List.getElem?_eq_getElem (by rw [hzn'.out]; exact hkn)⟩
          have hiD : (natZ z).getD k 0 = (i : Int) := by rw [List.getD_eq_getElem?_getD, natZ_get hi2]; rfl
          rw [hiD] at cz
          have hin := hz'.out i (List.mem_of_getElem? hi2)
          have hiI : (i : Int) < (N1 : Int) := by have := hN1'.out; omega
          have hst := Lib.hid (show (z.take (k + 1)).map (unitL N1) = (z.take k).map (unitL N1) ++ [unitL N1 i] by rw [List.take_add_one, hi2]; simp)
          have hxn := Lib.hid (show xs.length = k + 1 by
            have h1 := congrArg List.length hrows.out.2
            rw [List.length_map] at h1
            simp only [List.length_cons, List.length_map, List.length_take] at h1
            rw [hzn'.out] at h1
            omega)
          have hI0 := Lib.hid (IntsAt.new (T := 3) wr (List.replicate N1 0))
          have ci := hI0.out.loadD (k := i) (by simp; omega)
          have fi := hI0.out.frozen i
          have hI2 := Lib.hid (hI0.out.store i 1)
          rw [unit_set (by omega)] at hI2
          obtain ⟨A7, c7, rfl⟩ := own_slice hrows.out.1.own
          have hb5 : Below wr.heap.size wr (wr.alloc (.cells ((encZ (List.replicate N1 0)).setIfInBounds i (.int .i64 1)) 3 (0, 0))) := new_below wr _
          have hI2 := Lib.hid (show IntsAt 3 (wr.alloc (.cells ((encZ (List.replicate N1 0)).setIfInBounds i (.int .i64 1)) 3 (0, 0))) wr.heap.size (unitL N1 i) by rw [encZ_set, unit_set (by omega)]; exact IntsAt.new wr _)
          have hRo := Lib.hid (hrows.out.1.below hb5)
          have hmp := Lib.hid hrows.out.2
          have hne9 := Lib.hid (show some wr.heap.size ≠ (Value.slice A7 xs.length c7).ownBlock from fun e => Nat.lt_irrefl _ (hrows.out.1.own.lt _ e.symm).2)
          have Q0 := Lib.hid (bk_keep hb5 M0)
          have Q1 := Lib.hid (bk_keep hb5 M1)
          have hbw5 := Lib.hid (via hbw hb5)
          clear hiD hi2 hI0 hrows hbw hb5 M0 M1
          go_wp2_with (at_builtin; refine wpList_append_lies _ rfl _ _ 195 rfl (w.heap.size + 2) 33 i1 (.slice none 0 0) 1 24 Tryz.underlying195 hj hj0 hj1 hj2 rfl (by decide) _ _ _ rfl (hRo.out.own.alloc _) ⟨wr.heap.size + 1, 0, none⟩ 1 1 [.slice (some ⟨wr.heap.size, 0, none⟩) N1 N1] rfl rfl ?c1 ?c2 (by decide) ?c3 ?c4 ?c5 (wr.heap.size + 1 + 1) ?c6 ?_)
          case c1 => exact cells_new' _ [.slice (some ⟨wr.heap.size, 0, none⟩) N1 N1] _ (by simp)
          case c2 => intro u hu; simp at hu; subst hu; rfl
          case c3 => have := hxn.out; unfold maxLen; omega
          case c4 => have := hxn.out; omega
          case c5 => have := hbw5.out.size; simp at this; simp; omega
          case c6 => simp
          intro g cap w4 hown4 hg4 hor4 hlt4
          have hRo4 := Lib.hid (RowsOwn.push (x := ⟨some ⟨wr.heap.size, 0, none⟩, N1, unitL N1 i⟩) hRo.out (new_below _ _) rfl ((hI2.out.at').below (new_below _ _)) (by dsimp only; omega) (by simp; omega) hne9.out hg4 (by
            show w4.ownsRow _ 33 1 _ _ (_ ++ [Value.slice (some ⟨wr.heap.size, 0, none⟩) (unitL N1 i).length N1])
            rw [show (unitL N1 i).length = N1 by simp [unitL]]
            exact hown4) (by simpa using hor4))
          have hbw4 : Below w.heap.size w w4 := grown_below (via hbw5.out (new_below _ _)) hg4 fun b e => by have := (hRo.out.own.lt b e).1; omega
          have R0 := bk_grown hg4 (bk_alloc Q0.out _) (not_own hRo.out.own (by omega))
          have R1 := bk_grown hg4 (bk_alloc Q1.out _) (not_own hRo.out.own (by omega))
          have hmap := Lib.hid (show (xs ++ [(⟨some ⟨wr.heap.size, 0, none⟩, N1, unitL N1 i⟩ : IR)]).map IR.l = List.replicate N1 1 :: (z.take (k + 1)).map (unitL N1) from by rw [List.map_append, hmp.out, hst.out]; rfl)
          clear hown4 hg4 hor4 hRo hmp Q0 Q1
          go_wp2
          go_roundw
          case rel => exact ⟨k + 1, _, by omega, by go_num, ⟨hRo4.out, hmap.out⟩, R0, R1, hbw4⟩
          case measure => first | (simp [intOf]; done) | (simp [intOf]; omega)
        · obtain rfl : zn = k := by omega
          have hall : z.take zn = z := by rw [← hzn'.out, List.take_length]
          rw [hall] at hrows
          obtain ⟨d0, d1, d2, d3, d4⟩ := c0.out _ M0
          clear hkn hmk hw1 hall
          go_wp2
          clear d0 d1 d2 d3 d4
          go_loopw [7, 63] (fun v7 i wr => ∃ (k : Nat) (xs : List IR), k ≤ tn ∧ i = .int .i64 k ∧ Hid (RowsOwn wr (w.heap.size + 2) v7 xs ∧ xs.map IR.l = List.replicate N1 1 :: (z.map (unitL N1) ++ (t.take k).map fun i => (X.getD i default).1 ++ [(X.getD i default).2])) ∧ wr.heap[w.heap.size]? = some (.cells BA 160 (0, 0)) ∧ wr.heap[w.heap.size + 1]? = some (.cells #[.int .i64 0, .slice none 0 0] 62 (0, 0)) ∧ Below w.heap.size w wr) (fun _ i _ => tn - (intOf i).toNat)
          case atStart => exact ⟨0, xs, Nat.zero_le _, rfl, Lib.hid ⟨hrows.out.1, by rw [hrows.out.2]; simp⟩, M0, M1, hbw⟩
          case round =>
            clear hrows M0 M1 hbw s0 s1
            obtain ⟨k, xs, hk, rfl, hrows, M0, M1, hbw⟩ := hrel
            have s0 := bk_size M0
            have s1 := bk_size M1
            by_cases hkn : k < tn
            · have hkI : (k : Int) < (tn : Int) := by omega
              obtain ⟨bt, ot, rfl, hbt, ct⟩ := fT.out wr hbw k hkn
              obtain ⟨i, hi2⟩ : ∃ i, t[k]? = some i := ⟨_, List.getElem?_eq_getElem (by rw [htn'.out]; exact hkn)⟩
              have hiD : (natZ t).getD k 0 = (i : Int) := by rw [List.getD_eq_getElem?_getD, natZ_get hi2]; rfl
              rw [hiD] at ct
              have hin := ht'.out i (List.mem_of_getElem? hi2)
              have hiI : (i : Int) < (en : Int) := by omega
              obtain ⟨x, be, oe, rfl, hbe, hxl, hxs, hxm, e0, e1, e2, hxa, hxg, hxe⟩ := fE.out wr hbw i hin
              have hst := Lib.hid (show (t.take (k + 1)).map (fun i => (X.getD i default).1 ++ [(X.getD i default).2]) = (t.take k).map (fun i => (X.getD i default).1 ++ [(X.getD i default).2]) ++ [x.co ++ [x.mo]] by
                rw [List.take_add_one, hi2, List.map_append, Option.toList_some, List.map_cons, List.map_nil, hxg])
              have hxn := Lib.hid (show xs.length ≤ 20 by
                have h1 := congrArg List.length hrows.out.2
                rw [List.length_map] at h1
                simp only [List.length_cons, List.length_append, List.length_map, List.length_take] at h1
                rw [hzn'.out, htn'.out] at h1
                omega)
              obtain ⟨d0, d1, d2, d3, d4⟩ := c0.out _ M0
              obtain ⟨A7, c7, rfl⟩ := own_slice hrows.out.1.own
              have hmp := Lib.hid hrows.out.2
              have hRo := Lib.hid hrows.out.1
              have hxa' := Lib.hid hxa
              have hxl' := Lib.hid hxl
              clear hiD hi2 hrows hxl hxs hxm hxa hxg
              have hxe := Lib.hid hxe
              have hxr : 0 < np := by have := hzt'.out; omega
              go_wp2
              refine wp_world ?_
              intro W6 hW6
              have hb6 : Below wr.heap.size wr W6 := by rw [hW6]; exact new_below _ _
              have H6 : W6.heap[wr.heap.size]? = some (.cells #[.string x.nm, .slice x.A np x.c, .int .i64 x.mo] 73 (0, 0)) := by rw [hW6]; exact bk_new _ _ rfl
              have hRo6 := Lib.hid (hRo.out.below hb6)
              have Q0 := bk_keep hb6 M0
              have Q1 := bk_keep hb6 M1
              have hbw6 := via hbw hb6
              have hs6 : wr.heap.size < W6.heap.size := bk_size H6
              have hv6 := Lib.hid (show ∀ r, (Value.slice A7 xs.length c7).ownBlock = some r → w.heap.size + 2 ≤ r ∧ r < wr.heap.size from fun r e => hRo.out.own.lt r e)
              have hxa6 := Lib.hid (hxa'.out.below hb6)
              have hk6 := Lib.hid fun (u : World) (hu : KeepC w W6 (.slice A7 xs.length c7) u) => (hu.2.2 _ hs6 (fun e => Nat.lt_irrefl _ (hv6.out _ e.symm).2)).trans H6
              have hxa7 := Lib.hid fun (u : World) (hu : KeepC w W6 (.slice A7 xs.length c7) u) => (by
                obtain ⟨x', b', o', e1, -, e2, -, -, -, -, -, e3, -, e4⟩ := fE.out u hu.1 i hin
                have hxe2 := hxe.out
                rw [e4] at hxe2
                cases hxe2
                exact e3 : At 1 Zc u x.A x.co)
              clear hW6 hb6 hRo M0 M1 hbw hxa' d0 d1 d2 d3 d4 e0 e1 e2 ct
              refine region_last 11 _ (by kernel_rfl) rfl rfl (by kernel_rfl) (by kernel_rfl) (by kernel_rfl) (by kernel_rfl) ?_
              simp only [List.take_succ_cons, List.take_zero]
              apply any_row6 w 1 4 7 8 9 10 np xs.length 3 (x.co.map (Value.int .i64)) [.int .i64 x.mo] (.cells #[] 3 (0, 0)) (.cells #[.int .i64 x.mo] 3 (0, 0)) (fun h => .cells #[.slice h.a1 (np + 1) h.c1] 33 (0, 0)) (fun h => [.slice h.a1 (np + 1) h.c1]) (w.heap.size + 2) 33 (.slice A7 xs.length c7) (xs.map fun x => .slice x.A x.l.length x.c)
              case hB => kernel_rfl
              case hB' => intro g; kernel_rfl
              case hS => kernel_rfl
              case hN => kernel_rfl
              case hne => decide
              case hd1 =>
                intro L hc
                refine ⟨fun o ho h => ?_, fun o ho h => ?_, fun o ho h => ?_⟩
                · simp at ho
                  subst ho
                  simp [Region.binds] at h
                  exact ⟨by simp [h], by simp [h]⟩
                · simp at ho
                  subst ho
                  simp [Region.binds] at h
                  simp [h]
                · simp at ho
                  subst ho
                  simp [Region.binds] at h
                  simp [h]
              case hw => exact hbw6
              case hv0 => intro r e; have := (hv6.out r e).1; omega
              case hown => exact hRo6.out.own
              case hal0 =>
                intro o ho g y
                simp only [List.getElem?_cons_succ, List.getElem?_cons_zero, Option.some.injEq] at ho
                subst ho
                kernel_rfl
              case hal1 =>
                intro o ho g y
                simp only [List.getElem?_cons_succ, List.getElem?_cons_zero, Option.some.injEq] at ho
                subst ho
                kernel_rfl
              case hal2 =>
                intro o ho g y
                simp only [List.getElem?_cons_succ, List.getElem?_cons_zero, Option.some.injEq] at ho
                subst ho
                kernel_rfl
              case hcl =>
                intro o ho g y hy
                simp only [List.getElem?_cons_succ, List.getElem?_cons_zero, Option.some.injEq] at ho
                subst ho
                exact exec_append_fresh (P := Tryz.prog) (A := x.A) (l := x.co) (n := np) (b := (g 1).b) (c := x.c) (.tmp 74) (.tmp 76) 33 3 i0 (.int .i64 0) 8 W6.heap.size hxl'.out (by rfl) (by kernel_rfl) (by kernel_rfl) Tryz.underlying33 hi hz0 hz1 hz2 (by rfl) (by decide) (hxa7.out y hy) (by rw [hxl'.out]; exact hxr) (by rw [hxl'.out]; omega) hy.2.1
              case hq =>
                intro g u hu hgc hbx hbX
                have D6 := bk3 (hk6.out u hu)
                dsimp only [mixL, yieldsC, List.contains_cons, List.contains_nil]
                simp only [mixL, mkR6, yieldsC, List.contains_cons, List.contains_nil, Nat.reduceAdd, Nat.reduceBEq, Nat.zero_add, Bool.or_false, Bool.or_true, Bool.false_or, Bool.true_or, Bool.false_eq_true, if_true, if_false, Bool.or_self, Nat.reduceEqDiff]
                repeat (go_big_quiet_step (fail))
                exact wpQuiet_nil rfl
              case hap1 =>
                intro o ho g y hy h1 h2
                simp only [List.getElem?_cons_succ, List.getElem?_cons_zero, Option.some.injEq] at ho
                subst ho
                refine Exists.imp (fun v' h => Exists.imp (fun x' h => ⟨h.1, h.2.1, h.2.2.1⟩) h) (exec_append_row (P := Tryz.prog) (b := (g 7).b) (v := .slice (g 4).a1 np (g 4).c1) (u := .int .i64 x.mo) (tb := 3) (.tmp 77) (.tmp 80) 33 3 i0 (.int .i64 0) 8 W6.heap.size np (x.co.map (Value.int .i64)) (by rfl) (by kernel_rfl) (by kernel_rfl) Tryz.underlying33 hi hz0 hz1 hz2 (by rfl) (by decide) h1 h2 rfl (by omega) hy.2.1)
              case hap2 =>
                intro o ho g y hy h1 h2
                simp only [List.getElem?_cons_succ, List.getElem?_cons_zero, Option.some.injEq] at ho
                subst ho
                exact exec_append_row (P := Tryz.prog) (.tmp 73) (.tmp 82) 195 33 i1 (.slice none 0 0) _ 24 _ _ _ _ _ _ rfl (by kernel_rfl) (by kernel_rfl) Tryz.underlying195 hj hj0 hj1 hj2 rfl (by decide) h1 h2 rfl (by have := hxn.out; omega) (by have := hbw6.size; have := hy.2.1; omega)
              case hind => intro j hj; simp only [List.mem_cons, List.not_mem_nil, or_false] at hj; rcases hj with rfl | rfl | rfl | rfl | rfl | rfl <;> (intro g h; kernel_rfl)
              intro g y hy h1 h2 h3
              have hRo7 := Lib.hid (hRo6.out.row6 (l := x.co ++ [x.mo]) (by have := hbw6.size; omega) hy (by rw [List.map_append]; exact h1) (by omega) h2 h3)
              have R0 := (hy.2.2 _ (by omega) (fun e => by have := (hv6.out _ e.symm).1; omega)).trans Q0
              have R1 := (hy.2.2 _ (by omega) (fun e => by have := (hv6.out _ e.symm).1; omega)).trans Q1
              have hbw7 := hy.1
              have hmap := Lib.hid (show (xs ++ [(⟨(g 8).a1, (g 8).c1, x.co ++ [x.mo]⟩ : IR)]).map IR.l = List.replicate N1 1 :: (z.map (unitL N1) ++ (t.take (k + 1)).map fun i => (X.getD i default).1 ++ [(X.getD i default).2]) from by rw [List.map_append, hmp.out, hst.out]; simp)
              obtain ⟨A8, hA8⟩ : ∃ A, (g 10).a1 = A := ⟨_, rfl⟩
              obtain ⟨c8, hc8⟩ : ∃ c, (g 10).c1 = c := ⟨_, rfl⟩
              rw [hA8, hc8] at hRo7
              rw [hA8, hc8]
              clear hy h1 h2 h3 hst hmp hk6 hxa7 Q0 Q1 hRo6
              dsimp only
              go_wp2
              go_roundw
              case rel => exact ⟨k + 1, _, by omega, by go_num, ⟨hRo7.out, hmap.out⟩, R0, R1, hbw7⟩
              case measure => first | (simp [intOf]; done) | (simp [intOf]; omega)
            · obtain rfl : tn = k := by omega
              have hall : t.take tn = t := by rw [← htn'.out, List.take_length]
              obtain ⟨hro, hmap⟩ := hrows.out
              rw [hall] at hmap
              have hmM : xs.map IR.l = mixRows np X z t := by rw [hmap, ← hN1'.out]; rfl
              have hxl : xs.length = np := by
                have h1 := congrArg List.length hmM
                rw [List.length_map, mixRows_len] at h1
                have := hzt'.out
                omega
              obtain ⟨A7, c7, rfl⟩ := own_slice hro.own
              have hnp : 1 ≤ np := by have := hzt'.out; omega
              have hS := Lib.hid (sol_any A7 xs c7 wr hro.rowsAt (fun x hx => by
                have := mixRows_row (z := z) (t := t) hR'.out (fun i hi => by rw [hen'.out]; exact ht'.out i hi) x.l (by rw [hX'.out, ← hmM]; exact List.mem_map.2 ⟨x, hx, rfl⟩)
                omega) (by omega) (by omega) (by rw [hmM, ← hX'.out]; exact mixRows_small hR'.out z t))
              rw [hmM] at hS
              rw [hxl] at hS ⊢
              have hsm := Lib.hid (show (mixRows np X z t).length ≤ 5 ∧ SmallR (mixRows np X z t) ∧ (mixRows np X z t).length = np from ⟨by rw [← hmM, List.length_map]; omega, by rw [← hX'.out]; exact mixRows_small hR'.out z t, by rw [← hmM, List.length_map]; exact hxl⟩)
              obtain ⟨sl, hsl⟩ : ∃ sl, solL (mixRows np X z t) = sl := ⟨_, rfl⟩
              have hsl' := Lib.hid hsl
              unfold SolGot at hS
              rw [hsl] at hS
              clear hsl hro hrows hall hkn hxl hmap hmM
              rcases sl with _ | ⟨l, den⟩
              · dsimp only at hS
                have hnone := Lib.hid (show mixLP np X z t = none by unfold mixLP; rw [hsl'.out])
                go_wp2_with (go_at_call 108; refine hS.out.mono ?_; rintro e w2 ⟨rfl, hb2⟩; have N1 := bk_keep hb2 M1; have C1 := bk2 N1; have hbw2 := via hbw hb2)
                refine bodyPost_ret (v := .tuple #[.agg #[.int .i64 0, .slice none 0 0], .bool false]) ?_ rfl ⟨?_, ?_⟩
                · refine results_cell2t (p := 2) (u := 3) (ad := ⟨w.heap.size + 1, 0, none⟩) (v := .agg #[.int .i64 0, .slice none 0 0]) rfl (by rfl) (run_loadBlock (T := 62) (cs := [.int .i64 0, .slice none 0 0]) (by kernel_rfl) (by kernel_rfl) ?_)
                  exact bk_here (bk_here (N1) _ rfl) _ rfl
                · unfold MixGot
                  rw [hnone.out]
                · first | go_grown | (repeat' (first | assumption | refine Below.setCell ?_ (by dsimp only; omega) _))
              · dsimp only at hS
                obtain ⟨hll, hdb, hdp, hls⟩ := solL_small hsl'.out hsm.out.1 hsm.out.2.1
                rw [hsm.out.2.2] at hll
                rw [hll] at hS
                have hll' := Lib.hid hll
                have hls' := Lib.hid hls
                clear hls hll hsm
                go_wp2_with (go_at_call 108; refine hS.out.mono ?_; rintro e w2 ⟨⟨v, rfl, hown⟩, hb2⟩; obtain ⟨A14, c14, rfl⟩ := own_slice hown; have N1 := bk_keep hb2 M1; have C1 := bk2 N1; have hbw2 := via hbw hb2; have N0 := bk_keep hb2 M0; have hown' := Lib.hid hown; clear hown)
                refine wp_world ?_
                intro W8 hW8
                have hb8 : Below w2.heap.size w2 W8 := by rw [hW8]; exact new_below _ _
                have hQ8 : W8.heap[w2.heap.size]? = some (.cells #[.int .i64 den, .slice A14 np c14] 62 (0, 0)) := by rw [hW8]; exact bk_new _ _ rfl
                have hown8 := Lib.hid (owns_below hown'.out hb8)
                have P0 := bk_keep hb8 N0
                have P1 := bk_keep hb8 N1
                have hbw8 := via hbw2 hb8
                obtain ⟨Q, hQ⟩ : ∃ Q, w2.heap.size = Q := ⟨_, rfl⟩
                have hQv := Lib.hid (show ∀ r, (Value.slice A14 np c14).ownBlock = some r → wr.heap.size ≤ r ∧ r < Q from fun r e => by rw [← hQ]; exact hown'.out.lt r e)
                have hsQ := Lib.hid (show wr.heap.size ≤ Q by rw [← hQ]; exact hb2.size)
                rw [hQ] at hQ8 ⊢
                have hcl := Lib.hid fun (W : World) (ho : W.ownsRow wr.heap.size 3 1 (.slice A14 np c14) np (l.map (Value.int .i64))) k (hk : k < np) => (by
                  obtain ⟨g, h1, h2, h3, h4⟩ := own_cell ho (k := k) (u := .int .i64 (l.getD k 0)) (by
                    have : k < l.length := by rw [hll'.out]; exact hk
                    rw [List.getElem?_map, List.getD_eq_getElem?_getD, List.getElem?_eq_getElem this]; rfl)
                  exact ⟨g, h1, h3, h4⟩ : ∃ g, A14 = some ⟨g, 0, none⟩ ∧ g < W.heap.size ∧ W.cell? ⟨g, k, none⟩ = some (.int .i64 (l.getD k 0)))
                have hBw : w.heap.size + 2 ≤ wr.heap.size := by omega
                obtain ⟨Bs, hBs⟩ : ∃ Bs, wr.heap.size = Bs := ⟨_, rfl⟩
                rw [hBs] at hown8 hQv hsQ hcl hBw
                clear hW8 hown' M0 M1 N0 N1 C1 hbw hbw2 hb8 hb2 hS hQ hBs
                go_loopw [99] (fun i wr8 => ∃ k : Nat, k ≤ np ∧ i = .int .i64 k ∧ Hid (∀ j, j < k → ¬ l.getD j 0 < 0) ∧ W8 = wr8) (fun i _ => np - (intOf i).toNat)
                case atStart => exact ⟨0, Nat.zero_le _, rfl, fun j hj => by omega, rfl⟩
                case round =>
                  obtain ⟨k, hk, rfl, hnn, rfl⟩ := hrel
                  by_cases hkn : k < np
                  · have hkI : (k : Int) < (np : Int) := by omega
                    obtain ⟨g, rfl, hg, cl⟩ := hcl.out W8 hown8.out k hkn
                    obtain ⟨x, hx⟩ : ∃ x, l.getD k 0 = x := ⟨_, rfl⟩
                    rw [hx] at cl
                    have hx' := Lib.hid hx
                    clear hx
                    by_cases hx0 : x < 0
                    · have hnone := Lib.hid (show mixLP np X z t = none by
                        unfold mixLP
                        rw [hsl'.out]
                        simp only
                        rw [if_pos (any_neg (k := k) (by rw [hll'.out]; exact hkn) (by rw [hx'.out]; exact hx0))])
                      have C1 := bk2 P1
                      go_wp2
                      refine bodyPost_ret (v := .tuple #[.agg #[.int .i64 0, .slice none 0 0], .bool false]) ?_ rfl ⟨?_, ?_⟩
                      · refine results_cell2t (p := 2) (u := 3) (ad := ⟨w.heap.size + 1, 0, none⟩) (v := .agg #[.int .i64 0, .slice none 0 0]) rfl (by rfl) (run_loadBlock (T := 62) (cs := [.int .i64 0, .slice none 0 0]) (by kernel_rfl) (by kernel_rfl) ?_)
                        exact bk_here (bk_here (P1) _ rfl) _ rfl
                      · unfold MixGot
                        rw [hnone.out]
                      · first | go_grown | (repeat' (first | assumption | refine Below.setCell ?_ (by dsimp only; omega) _))
                    · go_wp2
                      go_roundw
                      case rel => exact ⟨k + 1, by omega, by go_num, (fun j hj => by
                        by_cases hjk : j = k
                        · rw [hjk, hx'.out]; exact hx0
                        · exact hnn.out j (by omega)), by trivial⟩
                      case measure => first | (simp [intOf]; done) | (simp [intOf]; omega)
                  · obtain rfl : np = k := by omega
                    obtain ⟨d0, d1, d2, d3, d4⟩ := c0.out _ P0
                    have hnn' := Lib.hid (show l.any (· < 0) = false from no_neg fun k hk => hnn.out k (by rw [hll'.out] at hk; exact hk))
                    clear hnn hkn
                    go_wp2
                    clear d0 d1 d2 d3 d4
                    go_loopw [111] (fun i wr9 => ∃ k : Nat, k ≤ en ∧ i = .int .i64 k ∧ Hid (∀ j, j < k → dotL (X.getD j default).1 l ≤ (X.getD j default).2 * den) ∧ wr9.heap[Q]? = some (.cells #[.int .i64 den, .slice A14 np c14] 62 (0, 0)) ∧ Below W8.heap.size W8 wr9) (fun i _ => en - (intOf i).toNat)
                    case atStart => exact ⟨0, Nat.zero_le _, rfl, fun j hj => by omega, hQ8, Below.refl _ _⟩
                    case round =>
                      clear hQ8
                      obtain ⟨k, hk, rfl, hper, hQb, hbr⟩ := hrel
                      have hbw9 := via hbw8 hbr
                      have hown9 := Lib.hid (owns_below hown8.out hbr)
                      by_cases hkn : k < en
                      · have hkI : (k : Int) < (en : Int) := by omega
                        obtain ⟨x, be, oe, rfl, hbe, hxl, hxs, hxm, e0, e1, e2, hxa, hxg, hxe⟩ := fE.out wr hbw9 k hkn
                        have hPr := Lib.hid fun W (hb : Below wr.heap.size wr W) => permits_any x.nm x.A A14 x.co l x.c c14 np x.mo den W (hxa.below hb) (own_ints (owns_below hown9.out hb)) hxl hll'.out (by omega) hxs hxm (fun y hy => Nat.le_trans (hls'.out y hy) (by decide)) (by omega)
                        have hxg' := Lib.hid hxg
                        obtain ⟨d, hd⟩ : ∃ d, decide (dotL x.co l ≤ x.mo * den) = d := ⟨_, rfl⟩
                        rw [hd] at hPr
                        have hd' := Lib.hid hd
                        have hQ9 := bk_alloc hQb (.cells #[.string x.nm, .slice x.A np x.c, .int .i64 x.mo] 73 (0, 0))
                        have D := bk2 hQ9
                        have hsW := bk_size hQb
                        clear hd hxa hxl hxs hxm hxg hxe
                        cases d with
                        | false =>
                          have hnone := Lib.hid (show mixLP np X z t = none by
                            unfold mixLP
                            rw [hsl'.out]
                            simp only
                            rw [if_neg (by rw [hnn'.out]; decide), if_pos (any_per (k := k) (by rw [← hX'.out, exs_len, hen'.out]; exact hkn) (by rw [hxg'.out]; exact of_decide_eq_false hd'.out))])
                          go_wp2_with (go_at_call 109; refine (hPr.out _ (new_below _ _)).mono ?_; rintro e w10 ⟨rfl, hb10⟩; have hQ10 := bk_keep hb10 hQ9; have hb11 := via (new_below wr (.cells #[.string x.nm, .slice x.A np x.c, .int .i64 x.mo] 73 (0, 0))) hb10; have R1 := bk_keep hb11 (bk_keep hbr P1); have C1 := bk2 R1; have hbw11 := via hbw9 hb11)
                          refine bodyPost_ret (v := .tuple #[.agg #[.int .i64 0, .slice none 0 0], .bool false]) ?_ rfl ⟨?_, ?_⟩
                          · refine results_cell2t (p := 2) (u := 3) (ad := ⟨w.heap.size + 1, 0, none⟩) (v := .agg #[.int .i64 0, .slice none 0 0]) rfl (by rfl) (run_loadBlock (T := 62) (cs := [.int .i64 0, .slice none 0 0]) (by kernel_rfl) (by kernel_rfl) ?_)
                            exact bk_here (bk_here (R1) _ rfl) _ rfl
                          · unfold MixGot
                            rw [hnone.out]
                          · first | go_grown | (repeat' (first | assumption | refine Below.setCell ?_ (by dsimp only; omega) _))
                        | true =>
                          go_wp2_with (go_at_call 109; refine (hPr.out _ (new_below _ _)).mono ?_; rintro e w10 ⟨rfl, hb10⟩; have hQ10 := bk_keep hb10 hQ9; have hb11 := via (new_below wr (.cells #[.string x.nm, .slice x.A np x.c, .int .i64 x.mo] 73 (0, 0))) hb10; have R1 := bk_keep hb11 (bk_keep hbr P1); have C1 := bk2 R1; have hbw11 := via hbw9 hb11)
                          go_roundw
                          case rel => exact ⟨k + 1, by omega, by go_num, (fun j hj => by
                            by_cases hjk : j = k
                            · rw [hjk, hxg'.out]; exact of_decide_eq_true hd'.out
                            · exact hper.out j (by omega)), hQ10, via hbr hb11⟩
                          case measure => first | (simp [intOf]; done) | (simp [intOf]; omega)
                      · obtain rfl : en = k := by omega
                        have hyes : mixLP np X z t = some (l.map (· / (gcdL 0 (den :: l) : Int)), den / (gcdL 0 (den :: l) : Int)) := by
                          unfold mixLP
                          rw [hsl'.out]
                          simp only
                          rw [if_neg (by rw [hnn'.out]; decide), if_neg (by rw [no_per fun j hj => hper.out j (by rw [← hX'.out, exs_len, hen'.out] at hj; exact hj)]; decide)]
                        have hdv := (gcdL_dvd (den :: l) 0).2
                        have hG0 : 0 < gcdL 0 (den :: l) := gcdL_pos den (by simp) (by omega)
                        have hDi := Lib.hid fun A c w' hA => divisor_any A (den :: l) c w' hA (by simp only [List.length_cons]; rw [hll'.out]; omega) (by
                          intro x hx
                          rcases List.mem_cons.1 hx with rfl | hx
                          · exact Nat.le_trans hdb (by decide)
                          · exact Nat.le_trans (hls'.out x hx) (by decide))
                        have hll2 : (den :: l).length = 1 + np := by simp only [List.length_cons]; rw [hll'.out]; omega
                        rw [hll2] at hDi
                        obtain ⟨gI, hgI⟩ : ∃ gI : Int, ((gcdL 0 (den :: l) : Nat) : Int) = gI := ⟨_, rfl⟩
                        rw [hgI] at hyes hdv hDi
                        have hg0 : 0 < gI := by omega
                        have hgn : ¬ gI = 0 := by omega
                        have hgb : (gI == 0) = false := by simpa using hgn
                        have hw1 : IntKind.i64.wrap (den.tdiv gI) = den / gI := wrap_div hg0 (hdv den (by simp)) hdb (by decide)
                        have hwL := Lib.hid fun j (hj : j < np) => (wrap_div hg0 (hdv (l.getD j 0) (by
                          have hj2 : j < l.length := by rw [hll'.out]; exact hj
                          rw [List.getD_eq_getElem?_getD, List.getElem?_eq_getElem hj2]
                          exact List.mem_cons_of_mem _ (List.getElem_mem hj2))) (hls'.out.get j) (by decide) : IntKind.i64.wrap ((l.getD j 0).tdiv gI) = l.getD j 0 / gI)
                        have hyes' := Lib.hid hyes
                        have hlitO := Lib.hid fun (x : World) => (⟨rfl, .inr ⟨x.heap.size, 1, #[.int .i64 den], rfl, Nat.le_refl _, bk_new _ _ rfl, Nat.le_refl _, by decide, rfl, rfl⟩⟩ : (x.alloc (.cells #[.int .i64 den] 3 (0, 0))).ownsRow x.heap.size 3 1 (.slice (some ⟨x.heap.size, 0, none⟩) 1 1) 1 [.int .i64 den])
                        obtain ⟨g, rfl, hg14, -⟩ := hcl.out wr hown9.out 0 (by have := hzt'.out; omega)
                        have hQv2 := Lib.hid (hQv.out g rfl)
                        clear hyes hdv hG0 hgI hll2 hper hkn
                        go_wp2_with (at_builtin; refine wpList_append_own _ rfl _ _ 33 rfl wr.heap.size 3 i0 (.int .i64 0) 1 8 Tryz.underlying33 hi hz0 hz1 hz2 rfl (by decide) _ _ _ rfl (hlitO.out wr) ⟨g, 0, none⟩ np c14 (l.map (Value.int .i64)) rfl ?c0 ?c1 ?c2 ?c3 ?c4 ?c5 ?_)
                        case c0 => rw [List.length_map, hll'.out, Nat.mul_one]
                        case c1 =>
                          intro j u hu
                          obtain ⟨g', e1, -, -, e2⟩ := own_cell (owns_below hown9.out (new_below wr (.cells #[.int .i64 den] 3 (0, 0)))) hu
                          cases e1
                          have e : Addr.add ⟨g, 0, none⟩ j = ⟨g, j, none⟩ := by unfold Addr.add; split <;> simp_all
                          rw [e]
                          exact e2
                        case c2 =>
                          intro u hu
                          obtain ⟨y, -, rfl⟩ := List.mem_map.1 hu
                          rfl
                        case c3 => unfold maxLen; omega
                        case c4 => omega
                        case c5 => simp
                        intro v4 w4 hown4 hg4 _
                        obtain ⟨A4, c4, rfl⟩ := own_slice hown4
                        have hbx4 : Below wr.heap.size wr w4 := grown_below (new_below wr _) hg4 fun b e => by cases e; exact Nat.le_refl _
                        have hat5 := Lib.hid (show At 1 Zc w4 A4 (den :: l) from own_ints (l := den :: l) hown4)
                        have hO4 := Lib.hid (owns_below hown9.out hbx4)
                        have hQ4 := bk_keep hbx4 hQb
                        have hbr4 := via hbr hbx4
                        clear hown4 hg4 hbx4 hown9 hQb hbr hbw9
                        go_wp2_with (go_at_call 85; refine (hDi.out _ _ _ hat5.out).mono ?_; rintro e w5 ⟨rfl, hb5⟩; have hQ5 := bk_keep hb5 hQ4; have D := bk2 hQ5)
                        have hO5 := Lib.hid (owns_below hO4.out hb5)
                        have hbr5 := via hbr4 hb5
                        have R1 := bk_keep hbr5 P1
                        have hbw5 := via hbw8 hbr5
                        obtain ⟨hQv3, hQv4⟩ := hQv2.out
                        have hsQ2 := bk_size hQ5
                        clear hO4 hQ4 hbr4 hb5 hat5 hDi hlitO D hbr5 P0 P1 hown8 hbw8
                        go_loopw [129] (fun i wr => ∃ k : Nat, k ≤ np ∧ i = .int .i64 k ∧ Hid (wr.ownsRow Bs 3 1 (.slice (some ⟨g, 0, none⟩) np c14) np (((l.take k).map (· / gI) ++ l.drop k).map (Value.int .i64))) ∧ wr.heap[Q]? = some (.cells #[.int .i64 den, .slice (some ⟨g, 0, none⟩) np c14] 62 (0, 0)) ∧ wr.heap[w.heap.size + 1]? = some (.cells #[.int .i64 0, .slice none 0 0] 62 (0, 0)) ∧ Below w.heap.size w wr) (fun i _ => np - (intOf i).toNat)
                        case atStart => exact ⟨0, Nat.zero_le _, rfl, Lib.hid (by simpa using hO5.out), hQ5, R1, hbw5⟩
                        case round =>
                          clear hO5 hQ5 R1 hbw5
                          obtain ⟨k, hk, rfl, hO6, hQ6, R1, hbw6⟩ := hrel
                          have D := bk2 hQ6
                          by_cases hkn : k < np
                          · have hkI : (k : Int) < (np : Int) := by omega
                            have hkL : k < l.length := by rw [hll'.out]; exact hkn
                            obtain ⟨g', e1, hg6, hg7, ci⟩ := own_cell hO6.out (k := k) (u := .int .i64 (l.getD k 0)) (by rw [List.getElem?_map, map_div_at hkL]; rfl)
                            cases e1
                            have fi := own_frozen hO6.out k
                            have hO7 := Lib.hid (own_store hO6.out hkn (.int .i64 (l.getD k 0 / gI)))
                            have hset : (((l.take k).map (· / gI) ++ l.drop k).map (Value.int .i64)).set k (.int .i64 (l.getD k 0 / gI)) = ((l.take (k + 1)).map (· / gI) ++ l.drop (k + 1)).map (Value.int .i64) := by rw [← map_div_step hkL, List.map_set]
                            rw [hset] at hO7
                            have hww := hwL.out k hkn
                            obtain ⟨y, hy⟩ : ∃ y, l.getD k 0 = y := ⟨_, rfl⟩
                            rw [hy] at ci hww hO7
                            clear hy hkL hset hO6
                            go_wp2
                            go_roundw
                            case rel => exact ⟨k + 1, by omega, by go_num, hO7.out, bk_set hQ6 (by dsimp only; omega) _, bk_set R1 (by dsimp only; omega) _, hbw6.setCell (by dsimp only; omega) _⟩
                            case measure => first | (simp [intOf]; done) | (simp [intOf]; omega)
                          · obtain rfl : np = k := by omega
                            have hO8 := Lib.hid hO6.out
                            rw [show l.take np = l by rw [← hll'.out, List.take_length], show l.drop np = [] by rw [← hll'.out, List.drop_length], List.append_nil] at hO8
                            have C1 := bk2 R1
                            clear hO6
                            have hne1 : w.heap.size + 1 ≠ Q := by omega
                            have hne2 : Q ≠ w.heap.size + 1 := by omega
                            have hne3 : g ≠ Q := by omega
                            have hne4 : g ≠ w.heap.size + 1 := by omega
                            obtain ⟨d2, hd2⟩ : ∃ d2, den / gI = d2 := ⟨_, rfl⟩
                            rw [hd2] at hw1 hyes'
                            go_wp2
                            refine bodyPost_ret (v := .tuple #[.agg #[.int .i64 d2, .slice (some ⟨g, 0, none⟩) np c14], .bool true]) ?_ rfl ⟨?_, ?_⟩
                            · refine results_cell2t (p := 2) (u := 3) (ad := ⟨w.heap.size + 1, 0, none⟩) (v := .agg #[.int .i64 d2, .slice (some ⟨g, 0, none⟩) np c14]) rfl (by rfl) (run_loadBlock (T := 62) (cs := [.int .i64 d2, .slice (some ⟨g, 0, none⟩) np c14]) (by kernel_rfl) (by kernel_rfl) ?_)
                              exact bk_here (bk_here (bk_set R1 hne1 _) _ rfl) _ rfl
                            · unfold MixGot
                              rw [hyes'.out]
                              refine ⟨_, _, rfl, owns_base (owns_kept hO8.out fun r e => ?_) (Nat.le_trans (by omega) hBw)⟩
                              cases e
                              rw [Below.heap_setCell _ _ _ _ hne4, Below.heap_setCell _ _ _ _ hne4, Below.heap_setCell _ _ _ _ hne3]
                            · exact ((hbw6.setCell (by dsimp only; omega) _).setCell (by dsimp only; omega) _).setCell (by dsimp only; omega) _
end Go.Proofs

set_option linter.unusedSimpArgs false
set_option linter.unusedVariables false
namespace Go.Proofs
open Go.RowKit
attribute [local go_sem] Oper.semAt_some

def SI (n k : Nat) (M : Nat → Prop) (w : World) (J : List ChV → (Nat → Prop) → World → Prop) (W0 B B1 B2 : Nat) (f : Nat) (wr : World) : Prop :=
  ∃ i l pre T, f + i = (cmb 0 n k).length ∧ ChI n k M w J W0 B B1 B2 i l wr pre T
set_option maxRecDepth 100000 in
set_option maxHeartbeats 4000000 in
theorem choices1_stops (m n k : Nat) (hkn : k ≤ n) (hn : n ≤ 1000) (B1 B2 : Nat) (M : Nat → Prop) (w : World) (h1 : w.heap[B1]? = some (.cells #[.int .i64 k] 3 (0, 0))) (h2 : w.heap[B2]? = some (.cells #[.int .i64 n] 3 (0, 0)))
    (hM1 : ¬ M B1) (hM2 : ¬ M B2) (hMw : ∀ j, M j → j < w.heap.size) :
    StopsW Fence.wide m Tryz.prog 107 #[.pointer (some ⟨B1, 0, none⟩), .pointer (some ⟨B2, 0, none⟩)] encC gvN M (fun pre x W => (pre ++ [x]).map ChV.l <+: cmb 0 n k ∧ IntsAt 3 W x.b (natZ x.l) ∧ x.l.length = k)
      (fun xs => xs.map ChV.l = cmb 0 n k) (fun pre => pre.map ChV.l <+: cmb 0 n k) (cmb 0 n k).length w := by
  intro l J Jx W hW hlw hlW hJ hJx hY h0
  have hws := hW.size
  have g1 := hW.block B1 (bk_size h1)
  have g2 := hW.block B2 (bk_size h2)
  rw [h1] at g1
  rw [h2] at g2
  have hB1 := bk_size h1
  have hB2 := bk_size h2
  have hmk := Lib.hid (run_mkInts k (by omega))
  have hmk' := hmk.out
  have G1 := bk1 g1
  have hJ' := Lib.hid hJ
  have hMl := Lib.hid hMw
  have hY' := Lib.hid hY
  have hM1' := Lib.hid hM1
  have hM2' := Lib.hid hM2
  have h0' := Lib.hid h0
  have hlk := Lib.hid (cmb_len 0 n k)
  have hfirst := Lib.hid (cmb_first 0 n k hkn)
  have hnext := Lib.hid fun i l h => cmb_next 0 n k (n - k) (by omega) i l h
  have hkn' := Lib.hid hkn
  have hj1000 : k ≤ 1000 := by omega
  clear h0 hJ hJx hY hM1 hM2 hMw h1 h2 hkn
  refine callsIn_of_wp Tryz.func107 rfl trivial ?_
  simp only [Tryz.ntmps107, List.size_toArray, List.length_cons, List.length_nil, Nat.reduceAdd, Nat.reduceSub, Array.replicate_succ, Array.replicate_zero, List.push_toArray, List.append_toArray, List.nil_append, List.cons_append]
  gi_wp2_with fail
  clear hmk' G1
  gi_loopw [12] (fun i wr => ∃ j : Nat, j ≤ k ∧ i = .int .i64 j ∧ IntsAt 3 wr W.heap.size (firstM k j) ∧ W.grownBy wr none ∧ W.heap.size < wr.heap.size) (fun i _ => k - (intOf i).toNat)
  case atStart => exact ⟨0, Nat.zero_le _, rfl, by have := IntsAt.new (T := 3) W (List.replicate k 0); simpa [firstM, natZ] using this, World.grownBy_alloc W _ none, by simp⟩
  case round =>
    obtain ⟨j, hj, rfl, hm, hg, hsz⟩ := hrel
    by_cases hlt : j < k
    · have hjI : (j : Int) < (k : Int) := by omega
      have cj := hm.loadD (k := j) (by rw [firstM_len hj]; exact hlt)
      have fj := hm.frozen j
      have hm2 := Lib.hid (hm.store j (j : Int))
      have hkw : IntKind.i64.wrap ((j : Int) + 1) = ((j + 1 : Nat) : Int) := by
        rw [Int.natCast_add]
        exact IntWalk.i64_in _ (by omega)
      gi_wp2
      go_roundw
      case rel =>
        have := hm2.out
        rw [firstM_set hlt] at this
        exact ⟨j + 1, by omega, by go_num, this, ⟨hg.os, hg.tape, hg.output, by simp; exact hg.size, fun i hi _ => (Below.heap_setCell wr _ _ i (by simp; omega)).trans (hg.block i hi (by simp))⟩, by simpa using hsz⟩
      case measure => first | (simp [intOf]; done) | (simp [intOf]; omega)
    · obtain rfl : j = k := by omega
      rw [firstM_all] at hm
      have hI0 : SI n j M w J W.heap.size W.heap.size B1 B2 (cmb 0 n j).length wr := ⟨0, _, [], fun _ => False, by omega, rfl, rfl, hfirst.out, hm, hJ'.out _ _ _ _ none h0'.out hg (fun r e => by cases e), fun r h => h.elim, (hg.block _ (bk_size g1) (by simp)).trans g1, (hg.block _ (bk_size g2) (by simp)).trans g2, Nat.le_refl _, hsz⟩
      obtain ⟨SX, hSX⟩ : ∃ SX : Nat → World → Prop, SX = fun f wr => SI n j M w J W.heap.size W.heap.size B1 B2 f wr := ⟨_, rfl⟩
      have hSX1 : Hid (∀ f wr, SX f wr → SI n j M w J W.heap.size W.heap.size B1 B2 f wr) := by rw [hSX]; exact fun _ _ h => h
      have hSX2 : Hid (∀ f wr, SI n j M w J W.heap.size W.heap.size B1 B2 f wr → SX f wr) := by rw [hSX]; exact fun _ _ h => h
      have hI0' := Lib.hid hI0
      obtain ⟨Wz, hWz⟩ : ∃ Wz, W.heap.size = Wz := ⟨_, rfl⟩
      rw [hWz] at hSX1 hSX2 hI0' hlW
      have hWz' := Lib.hid hWz
      rw [hWz]
      clear hSX hI0 hm hg hsz hlt g1 g2
      gi_wp2
      gi_loopw [6] (fun _ wr => ∃ f, SX f wr) (fun _ wr => leastOf fun f => SX f wr)
      case atStart => exact ⟨_, hSX2.out _ _ hI0'.out⟩
      case round =>
        clear hI0'
        obtain ⟨f, hf⟩ : ∃ f, (leastOf fun f => SX f wr) = f := ⟨_, rfl⟩
        have hls := (leastOf_spec hrel).1
        rw [hf] at hls
        have hf' := Lib.hid hf
        clear hf hrel
        obtain ⟨i, L, pre, T, hfi, hc⟩ := hSX1.out _ _ hls
        clear hls
        obtain ⟨plen, ppre, pnow, pmem, pjj, ptt, pc1, pc2, psz⟩ := hc
        have C1 := bk1 pc1
        have C2 := bk1 pc2
        have hLl := hlk.out L (List.mem_of_getElem? pnow)
        have hiN : i < (cmb 0 n j).length := (List.getElem?_eq_some_iff.1 pnow).1
        have hpx : (pre ++ [(⟨Wz, L⟩ : ChV)]).map ChV.l = (cmb 0 n j).take (i + 1) := by
          rw [List.map_append, ppre, List.take_add_one, pnow]
          rfl
        have hpw : (pre ++ [(⟨Wz, L⟩ : ChV)]).map ChV.l <+: cmb 0 n j := by rw [hpx]; exact List.take_prefix _ _
        obtain ⟨fn, tm, asg, bod, hy, hR⟩ := hY'.out pre T ⟨Wz, L⟩ wr pjj (fun r hr => ⟨by have := (ptt r hr).1; omega, (ptt r hr).2.1⟩) (fun y _ r hr => hr.elim) (by omega) ⟨hpw, pmem, hLl⟩
        have hy' : (Instr.yield l #[.slice (some ⟨Wz, 0, none⟩) j j]).run Tryz.prog wr = .ok (.round l fn tm asg bod) wr := by
          have := hy
          simp only [encC, hLl] at this
          exact this
        have hR' := Lib.hid hR
        have hnI : (j : Int) ≤ (n : Int) := by have := hkn'.out; omega
        have hpx' := Lib.hid hpx
        have hpw' := Lib.hid hpw
        have ptt' := Lib.hid ptt
        have pmem' := Lib.hid pmem
        have pc1' := Lib.hid pc1
        have pc2' := Lib.hid pc2
        have pnow' := Lib.hid pnow
        have psz2 := psz.2
        have plen' := Lib.hid plen
        clear hy hR hpx hpw ppre pjj ptt pmem pnow pc1 pc2 psz plen
        gi_wp2_with fail
        clear hy' C1 C2
        refine ⟨fun h => (by cases h), hR'.out.mono ?_⟩
        clear hR'
        rintro e w4 ⟨T', t1, t2, hli, (⟨rfl, hJ4⟩ | ⟨rfl, hJ4⟩)⟩
        · have hTB : ∀ r, T' r → Wz ≤ r ∧ r < w4.heap.size ∧ r ≠ Wz := fun r hr => by
            have h2 := t2 r hr
            rcases t1 r hr with h | h
            · have := ptt'.out r h; omega
            · omega
          have hnb : ∀ b, (b = Wz ∨ b = B1 ∨ b = B2) → ¬ (M b ∨ T b ∨ b = l) := by
            rintro b hb (h | h | h)
            · rcases hb with rfl | rfl | rfl
              · have := hMl.out _ h; omega
              · exact hM1'.out h
              · exact hM2'.out h
            · have := ptt'.out b h; omega
            · omega
          have qmem := pmem'.out.grown hli (hnb Wz (.inl rfl))
          have q1 := hli.obj (hnb B1 (.inr (.inl rfl))) pc1'.out
          have q2 := hli.obj (hnb B2 (.inr (.inr rfl))) pc2'.out
          have D1 := bk1 q1
          have D2 := bk1 q2
          obtain ⟨m0, hm0⟩ : ∃ m0, n - j = m0 := ⟨_, rfl⟩
          have hw0 : IntKind.i64.wrap ((j : Int) - 1) = (j : Int) - 1 := IntWalk.i64_in _ (by omega)
          have hJ4' := Lib.hid hJ4
          have hTB' := Lib.hid hTB
          clear hli t1 t2 hJ4 hTB hnb pmem' pc1' pc2' ptt'
          gi_wp2
          gi_loopw [6] (fun at_ wi => ∃ a : Nat, a ≤ j ∧ at_ = .int .i64 ((a : Int) - 1) ∧ Hid (∀ q y, a ≤ q → L[q]? = some y → y = m0 + q) ∧ Below w4.heap.size w4 wi) (fun at_ _ => (intOf at_ + 1).toNat)
          case atStart => exact ⟨j, Nat.le_refl _, rfl, fun q y hq hy => by have := (List.getElem?_eq_some_iff.1 hy).1; omega, Below.refl _ _⟩
          case round =>
            obtain ⟨a, ha, rfl, hmax, hbi⟩ := hrel
            have r1 := bk_keep hbi q1
            have r2 := bk_keep hbi q2
            have rmem := qmem.below hbi
            have E1 := bk1 r1
            have E2 := bk1 r2
            have hwn : IntKind.i64.wrap ((n : Int) - (j : Int)) = (m0 : Int) := by rw [IntWalk.i64_in _ (by omega)]; omega
            rcases a with _ | b
            · have e0 : ((0 : Nat) : Int) - 1 = -1 := rfl
              rw [e0]
              have hng : decide ((0 : Int) ≤ -1) = false := rfl
              gi_wp2
              refine wpIn_wide.2 ?_
              refine region_all w4 (by kernel_rfl) (by kernel_rfl) hbi ?_
              intro hgc hbx
              repeat (go_big_quiet_step (fail))
              refine wpQuiet_nil ?_
              intro wb hb_wb hw_wb hs_wb
              clear hgc hbx
              have hJb := Lib.hid (hJ'.out _ _ _ _ none hJ4'.out (grown_below_none hw_wb) (fun r e => by cases e))
              have hend : Hid (i + 1 = (cmb 0 n j).length) := by
                have h1 := hnext.out i L pnow'.out
                rw [nxtC_none (n - j) L (fun q x hx => by rw [hm0]; exact hmax.out q x (Nat.zero_le _) hx)] at h1
                have := List.getElem?_eq_none_iff.1 h1.symm
                show _ = _
                omega
              gi_wp2
              refine bodyPost_ret (results_none rfl _ _ _) rfl ?_
              exact ⟨⟨_, rfl⟩, .inl ⟨_, T', by rw [hpx'.out, hend.out, List.take_length], hJb.out⟩⟩
            · have e0 : ((b + 1 : Nat) : Int) - 1 = (b : Int) := by omega
              rw [e0]
              obtain ⟨x, hx⟩ : ∃ x, L[b]? = some x := ⟨_, List.getElem?_eq_getElem (by omega)⟩
              have cx := rmem.load (natZ_get hx)
              have hxn : x < n := (Asc.lt (cmb_asc 0 n j L (List.mem_of_getElem? pnow'.out)) x (List.mem_of_getElem? hx)).2 |> fun h => by omega
              have hbI : (b : Int) < (j : Int) := by omega
              have hng : decide ((0 : Int) ≤ (b : Int)) = true := by simp
              have hws' : IntKind.i64.wrap ((m0 : Int) + (b : Int)) = (m0 : Int) + (b : Int) := IntWalk.i64_in _ (by omega)
              have hzr := rmem.size
              by_cases hxe : x = m0 + b
              · have hxb : ((x : Int) == (m0 : Int) + (b : Int)) = true := by simp; omega
                have hmax2 := Lib.hid (show ∀ q y, b ≤ q → L[q]? = some y → y = m0 + q from fun q y hq hy => by
                  rcases Nat.eq_or_lt_of_le hq with rfl | hq
                  · rw [hx] at hy; cases hy; exact hxe
                  · exact hmax.out q y hq hy)
                have hwb : IntKind.i64.wrap ((b : Int) - 1) = (b : Int) - 1 := IntWalk.i64_in _ (by omega)
                clear hxe hmax hx
                gi_wp2
                refine wpIn_wide.2 ?_
                refine region_all w4 (by kernel_rfl) (by kernel_rfl) hbi ?_
                intro hgc hbx
                repeat (go_big_quiet_step (fail))
                refine wpQuiet_nil ?_
                intro wb hb_wb hw_wb hs_wb
                clear hgc hbx
                gi_wp2
                go_roundw
                case rel => exact ⟨b, by omega, rfl, hmax2.out, hw_wb⟩
                case measure => first | (simp [intOf]; done) | (simp [intOf]; omega)
              · have hxb : ((x : Int) == (m0 : Int) + (b : Int)) = false := by simp; omega
                have hwx : IntKind.i64.wrap ((x : Int) + 1) = (x : Int) + 1 := IntWalk.i64_in _ (by omega)
                have hxc := Lib.hid (show ((x : Int) + 1) = ((x + 1 : Nat) : Int) by omega)
                have hwb : IntKind.i64.wrap ((b : Int) + 1) = ((b + 1 : Nat) : Int) := by rw [IntWalk.i64_in _ (by omega)]; omega
                have hnx := Lib.hid ((nxtC_some (n - j) L b x hx (by rw [hm0]; exact hxe) (fun q y hq hy => by rw [hm0]; exact hmax.out q y (by omega) hy)).symm.trans (hnext.out i L pnow'.out))
                have hx' := Lib.hid hx
                have hmem' := Lib.hid rmem
                have r1' := Lib.hid r1
                have r2' := Lib.hid r2
                clear hxe hmax hx hw0
                gi_wp2
                refine wpIn_wide.2 ?_
                refine region_all w4 (by kernel_rfl) (by kernel_rfl) hbi ?_
                intro hgc hbx
                repeat (go_big_quiet_step (fail))
                refine wpQuiet_nil ?_
                intro wb hb_wb hw_wb hs_wb
                clear hgc hbx
                have s1 := bk_keep hb_wb r1
                have s2 := bk_keep hb_wb r2
                have smem := rmem.below hb_wb
                have F1 := bk1 s1
                have F2 := bk1 s2
                have cx2 := smem.load (natZ_get hx'.out)
                have fx2 := smem.frozen b
                have hJb := Lib.hid (hJ'.out _ _ _ _ none hJ4'.out (grown_below_none hw_wb) (fun r e => by cases e))
                have hwz := smem.size
                clear E1 E2 r1 r2 rmem cx qmem q1 q2 D1 D2
                have hbm : b < L.length := by omega
                have tmem := Lib.hid (show IntsAt 3 (wb.setCell ⟨Wz, b, none⟩ (.int .i64 ((x : Int) + 1))) Wz (natZ (restM L b x (b + 1))) from by
                  rw [← restM_begin hbm, ← natZ_set, hxc.out]
                  exact smem.store b _)
                have t1m := Lib.hid (bk_set s1 (p := ⟨Wz, b, none⟩) (by dsimp only; omega) (.int .i64 ((x : Int) + 1)))
                have t2m := Lib.hid (bk_set s2 (p := ⟨Wz, b, none⟩) (by dsimp only; omega) (.int .i64 ((x : Int) + 1)))
                have hJs := Lib.hid (hJ'.out _ _ _ _ (some Wz) hJb.out (grown_set wb Wz b (.int .i64 ((x : Int) + 1))) (fun r e => by cases e; exact ⟨by omega, fun h => (hTB'.out _ h).2.2 rfl, fun y _ h => h⟩))
                gi_wp2
                have hsz0 : (wb.setCell ⟨Wz, b, none⟩ (.int .i64 ((x : Int) + 1))).heap.size = wb.heap.size := by simp
                generalize wb.setCell ⟨Wz, b, none⟩ (.int .i64 ((x : Int) + 1)) = w5 at *
                have hTB5 := Lib.hid (fun r hr => by
                  have h1 := hTB'.out r hr
                  have h2 := hw_wb.size
                  exact ⟨h1.1, by omega, h1.2.2⟩ : ∀ r, T' r → Wz ≤ r ∧ r < w5.heap.size ∧ r ≠ Wz)
                clear s1 s2 F1 F2 smem cx2 fx2 hb_wb hw_wb hs_wb hbi hwx
                gi_loopw [7] (fun q_ wi => ∃ q : Nat, b < q ∧ q ≤ j ∧ q_ = .int .i64 q ∧ Hid (IntsAt 3 wi Wz (natZ (restM L b x q)) ∧ wi.heap[B1]? = some (.cells #[.int .i64 j] 3 (0, 0)) ∧ wi.heap[B2]? = some (.cells #[.int .i64 n] 3 (0, 0)) ∧ J (pre ++ [⟨Wz, L⟩]) T' wi ∧ wi.heap.size = w5.heap.size)) (fun q_ _ => j - (intOf q_).toNat)
                case atStart => exact ⟨b + 1, by omega, by omega, rfl, tmem.out, t1m.out, t2m.out, hJs.out, rfl⟩
                case round =>
                  obtain ⟨q, hbq, hqj, rfl, hmm⟩ := hrel
                  obtain ⟨u0, u1, u2, u3, u4⟩ := hmm.out
                  clear hmm
                  have E1 := bk1 u1
                  by_cases hqlt : q < j
                  · have hqI : (q : Int) < (j : Int) := by omega
                    obtain ⟨p, rfl⟩ : ∃ p, q = p + 1 := ⟨q - 1, by omega⟩
                    have hpq : ((p + 1 : Nat) : Int) - 1 = (p : Int) := by omega
                    have hwp : IntKind.i64.wrap (((p + 1 : Nat) : Int) - 1) = (p : Int) := by rw [IntWalk.i64_in _ (by omega)]; omega
                    have hpI : (p : Int) < (j : Int) := by omega
                    have cq := u0.load (natZ_get (by have := restM_get (l := L) (x := x) hbq (by omega); rwa [Nat.add_sub_cancel] at this))
                    have hxp : x + (p + 1 - b) ≤ 2000 := by omega
                    obtain ⟨y, hy⟩ : ∃ y, x + (p + 1 - b) = y := ⟨_, rfl⟩
                    rw [hy] at cq hxp
                    have hwy : IntKind.i64.wrap ((y : Int) + 1) = ((y + 1 : Nat) : Int) := by rw [IntWalk.i64_in _ (by omega)]; omega
                    have hwq : IntKind.i64.wrap (((p + 1 : Nat) : Int) + 1) = ((p + 1 + 1 : Nat) : Int) := by rw [IntWalk.i64_in _ (by omega)]; omega
                    have cs := u0.loadD (k := p + 1) (by rw [natZ_len, restM_len hbq (by omega)]; omega)
                    have fs := u0.frozen (p + 1)
                    have hyc := Lib.hid (show ((y : Int) + 1) = ((y + 1 : Nat) : Int) by omega)
                    have v0 := Lib.hid (show IntsAt 3 (wr.setCell ⟨Wz, p + 1, none⟩ (.int .i64 ((y : Int) + 1))) Wz (natZ (restM L b x (p + 1 + 1))) from by
                      have := restM_step (l := L) (x := x) hbq (by omega)
                      rw [hy] at this
                      rw [← this, ← natZ_set, hyc.out]
                      exact u0.store (p + 1) _)
                    have v1 := Lib.hid (bk_set u1 (p := ⟨Wz, p + 1, none⟩) (by dsimp only; omega) (.int .i64 ((y : Int) + 1)))
                    have v2 := Lib.hid (bk_set u2 (p := ⟨Wz, p + 1, none⟩) (by dsimp only; omega) (.int .i64 ((y : Int) + 1)))
                    have vJ := Lib.hid (hJ'.out _ _ _ _ (some Wz) u3 (grown_set wr Wz (p + 1) (.int .i64 ((y : Int) + 1))) (fun r e => by cases e; exact ⟨by omega, fun h => (hTB'.out _ h).2.2 rfl, fun y _ h => h⟩))
                    have hwy2 : IntKind.i64.wrap ((y : Int) + 1) = (y : Int) + 1 := IntWalk.i64_in _ (by omega)
                    clear hwy hy u0 u1 u2 u3
                    gi_wp2
                    go_roundw
                    case rel => exact ⟨p + 1 + 1, by omega, by omega, rfl, v0.out, v1.out, v2.out, vJ.out, by simpa using u4⟩
                    case measure => first | (simp [intOf]; done) | (simp [intOf]; omega)
                  · obtain rfl : q = j := by omega
                    have hnew := Lib.hid (hSX2.out (f - 1) wr ⟨i + 1, restM L b x q, pre ++ [⟨Wz, L⟩], T', by omega, ⟨by rw [List.length_append, plen'.out]; rfl, hpx'.out, by
                      have := hnx.out
                      rw [← this, ← hLl, restM_all], u0, u3, fun r hr => by rw [u4]; exact hTB5.out r hr, u1, u2, Nat.le_refl _, u0.size⟩⟩)
                    clear u0 u1 u2 u3 hqlt
                    gi_wp2
                    refine ⟨⟨f - 1, hnew.out⟩, ?_⟩
                    rw [hf'.out]
                    exact Nat.lt_of_le_of_lt ((leastOf_spec (p := fun f => SX f wr) ⟨f - 1, hnew.out⟩).2 (f - 1) hnew.out) (by omega)
        · have hJ4' := Lib.hid hJ4
          clear hli hJ4 t1 t2
          gi_wp2
          refine bodyPost_ret (results_none rfl _ _ _) rfl ?_
          exact ⟨⟨_, rfl⟩, .inr ⟨_, T', hpw'.out, hJ4'.out⟩⟩
end Go.Proofs

set_option linter.unusedSimpArgs false
set_option linter.unusedVariables false
namespace Go.Proofs
open Go.RowKit

theorem basC_none : (basC (.slice none 0 0) (.slice none 0 0) (.slice none 0 0) (.slice none 0 0) [] []).toArray = #[.slice none 0 0, .slice none 0 0, .slice none 0 0, .slice none 0 0, .bool false, .bool false, .bool false, .bool false, .bool false, .bool false, .bool false, .bool false, .bool false, .bool false, .bool false, .bool false, .bool false] := by
  simp [basC, boolL, List.range_succ]
theorem basC_begin (pv ev : Value) : (basC pv ev (.slice none 0 0) (.slice none 0 0) [] []).toArray = #[pv, ev, .slice none 0 0, .slice none 0 0, .bool false, .bool false, .bool false, .bool false, .bool false, .bool false, .bool false, .bool false, .bool false, .bool false, .bool false, .bool false, .bool false] := by
  simp [basC, boolL, List.range_succ]
theorem boolL_one (n : Nat) (z : List Nat) : ∀ u ∈ boolL n z, u.oneCell' = true := by
  intro u hu
  obtain ⟨i, -, rfl⟩ := List.mem_map.1 hu
  rfl
theorem basC_one {pv ev zv tv : Value} {z t : List Nat} (h1 : pv.oneCell' = true) (h2 : ev.oneCell' = true) (h3 : zv.oneCell' = true) (h4 : tv.oneCell' = true) : ∀ u ∈ basC pv ev zv tv z t, u.oneCell' = true := by
  intro u hu
  simp only [basC, List.mem_cons, List.mem_append] at hu
  rcases hu with rfl | rfl | rfl | rfl | hu | hu
  · exact h1
  · exact h2
  · exact h3
  · exact h4
  · exact boolL_one _ _ _ hu
  · exact boolL_one _ _ _ hu
set_option maxRecDepth 100000 in
set_option maxHeartbeats 4000000 in
theorem basisOf_any (pA eA A : Option Addr) (pn pc en ec cl : Nat) (l : List Nat) (w : World) (hl : At 1 Zc w A (natZ l)) (hasc : Asc 0 (pn + en) l) (hp : pn ≤ 5) (he : en ≤ 8) :
    Calls Tryz.prog 82 #[.agg #[.slice pA pn pc, .slice eA en ec], .slice A l.length cl] w fun e w' => (∃ zv tv, e = .returned (.agg (basC (.slice pA pn pc) (.slice eA en ec) zv tv (zerosL pn l) (tightL pn l)).toArray) ∧
      w'.ownsRow w.heap.size 3 1 zv (zerosL pn l).length ((natZ (zerosL pn l)).map (Value.int .i64)) ∧ w'.ownsRow w.heap.size 3 1 tv (tightL pn l).length ((natZ (tightL pn l)).map (Value.int .i64))) ∧ Below w.heap.size w w' := by
  have hll : l.length ≤ 13 := by
    have : ∀ (l : List Nat) (a b : Nat), Asc a b l → l.length ≤ b - a := by
      intro l
      induction l with
      | nil => intro a b _; exact Nat.zero_le _
      | cons x t ih =>
        intro a b h
        have h1 := ih (x + 1) b h.2.2
        have h2 := h.1
        have h3 := h.2.1
        simp only [List.length_cons]
        omega
    have := this l 0 _ hasc
    omega
  have gl := Lib.hid fun W (hb : Below w.heap.size w W) k (hk : k < l.length) => zc_cell (hl.below hb) (k := k) (by rw [natZ_len]; exact hk)
  have hasc' := Lib.hid fun x hx => (Asc.lt hasc x hx).2
  obtain ⟨N, hN⟩ : ∃ N, l.length = N := ⟨_, rfl⟩
  have hN' := Lib.hid hN
  rw [hN] at gl hll ⊢
  obtain ⟨i0, hi, hz0, hz1, hz2⟩ := info_parts Tryz.info3
  have hs17 : ∀ x, (sizeOf 160).run Tryz.prog x = .ok 17 x := fun x => by kernel_rfl
  have ha17 : ∀ x, (isAgg 160).run Tryz.prog x = .ok true x := fun x => by kernel_rfl
  obtain ⟨ZF, hZF⟩ : ∃ ZF, zerosL pn l = ZF := ⟨_, rfl⟩
  obtain ⟨TF, hTF⟩ : ∃ TF, tightL pn l = TF := ⟨_, rfl⟩
  rw [hZF, hTF]
  have hZF' := Lib.hid hZF
  have hTF' := Lib.hid hTF
  clear hl hasc hN hZF hTF
  go_enter Tryz.func82, Tryz.ntmps82
  go_wp2_with (refine wpList_store_block (by with_reducible rfl) (.tmp 5) (.tmp 10) 160 (by with_reducible rfl) (w.heap.size + 2) (basC (.slice pA pn pc) (.slice eA en ec) (.slice none 0 0) (.slice none 0 0) [] []) (basC (.slice none 0 0) (.slice none 0 0) (.slice none 0 0) (.slice none 0 0) [] []) 160 ?sp ?sq (hs17 _) ?sb rfl (basC_one rfl rfl rfl rfl) ?_)
  case sp => rfl
  case sq => rw [basC_begin]; rfl
  case sb => rw [basC_none]; (repeat (first | assumption | (refine bk_new _ _ ?_; (simp; done)) | refine bk_drew ?_ | refine bk_alloc ?_ _ | refine bk_set ?_ (by simp <;> omega) _))
  intro w1 hblk hg1 hsz1
  have M0 : w1.heap[w.heap.size]? = some (.cells #[.slice pA pn pc, .slice eA en ec] 25 (0, 0)) := bk_grown hg1 (by (repeat (first | assumption | (refine bk_new _ _ ?_; (simp; done)) | refine bk_drew ?_ | refine bk_alloc ?_ _ | refine bk_set ?_ (by simp <;> omega) _))) (by simp <;> omega)
  have hb1 : Below w.heap.size w w1 := grown_below (via (new_below _ _) (via (new_below _ _) (new_below _ _))) hg1 (fun b e => by have := Option.some.inj e; omega)
  have hs1 : w1.heap.size = w.heap.size + 3 := by simpa using hsz1
  have hr1 : Hid (∃ c, w1.heap[w.heap.size + 1]? = some (.cells c 160 (0, 0)) ∧ c.size = 17) := Lib.hid ⟨_, bk_grown hg1 (by (repeat (first | assumption | (refine bk_new _ _ ?_; (simp; done)) | refine bk_drew ?_ | refine bk_alloc ?_ _ | refine bk_set ?_ (by simp <;> omega) _))) (by simp <;> omega), rfl⟩
  clear hg1 hsz1
  go_wp2
  go_loopw [13] (fun i wr => ∃ k : Nat, k ≤ N ∧ i = .int .i64 k ∧ wr.heap[w.heap.size]? = some (.cells #[.slice pA pn pc, .slice eA en ec] 25 (0, 0)) ∧ Hid (∃ c, wr.heap[w.heap.size + 1]? = some (.cells c 160 (0, 0)) ∧ c.size = 17) ∧ Hid (∃ zv tv, BasI (w.heap.size + 3) (w.heap.size + 2) (.slice pA pn pc) (.slice eA en ec) (zerosL pn (l.take k)) (tightL pn (l.take k)) zv tv wr) ∧ Below w.heap.size w wr ∧ w.heap.size + 3 ≤ wr.heap.size) (fun i _ => N - (intOf i).toNat)
  case atStart => exact ⟨0, Nat.zero_le _, rfl, M0, hr1.out, ⟨.slice none 0 0, .slice none 0 0, hblk, World.ownsRow_nil _ _ _ _, World.ownsRow_nil _ _ _ _, fun g h => by cases h⟩, hb1, by omega⟩
  case round =>
    clear M0 hblk hb1 hs1 hr1
    obtain ⟨k, hk, rfl, M0, hr, hbas, hbw, hsw⟩ := hrel
    obtain ⟨zv, tv, hB⟩ := hbas.out
    obtain ⟨Bk, Bz, Bt, Bap⟩ := hB
    obtain ⟨zA, zc, rfl⟩ := own_slice Bz
    obtain ⟨tA, tc, rfl⟩ := own_slice Bt
    have C0 := bk2 M0
    have CB := bas4 Bk
    clear hbas
    by_cases hlt : k < N
    · have hkI : (k : Int) < (N : Int) := by omega
      obtain ⟨b, o, rfl, hbl, ck⟩ := gl.out wr hbw k hlt
      obtain ⟨x, hx⟩ : ∃ x, l[k]? = some x := ⟨_, List.getElem?_eq_getElem (by rw [hN'.out]; exact hlt)⟩
      have hxD : (natZ l).getD k 0 = (x : Int) := by rw [List.getD_eq_getElem?_getD, natZ_get hx]; rfl
      rw [hxD] at ck
      have hxb := hasc'.out x (List.mem_of_getElem? hx)
      have hsn : l.take (k + 1) = l.take k ++ [x] := by rw [List.take_add_one, hx]; rfl
      have hzs := Lib.hid (show zerosL pn (l.take (k + 1)) = if x < pn then zerosL pn (l.take k) ++ [x] else zerosL pn (l.take k) by rw [hsn, zerosL_snoc])
      have hts := Lib.hid (show tightL pn (l.take (k + 1)) = if x < pn then tightL pn (l.take k) else tightL pn (l.take k) ++ [x - pn] by rw [hsn, tightL_snoc])
      clear hsn
      have hzl : (zerosL pn (l.take k)).length ≤ 13 := Nat.le_trans (List.length_filter_le _ _) (by simp; omega)
      have htl : (tightL pn (l.take k)).length ≤ 13 := by
        unfold tightL
        rw [List.length_map]
        exact Nat.le_trans (List.length_filter_le _ _) (by simp; omega)
      generalize zerosL pn (l.take k) = Z at *
      generalize tightL pn (l.take k) = T at *
      have Bz' := Lib.hid Bz
      have Bt' := Lib.hid Bt
      have Bk' := Lib.hid Bk
      have Bap' := Lib.hid Bap
      clear hxD hx Bz Bt Bk Bap
      by_cases hxp : x < pn
      · have hxI : (x : Int) < (pn : Int) := by omega
        have hx5 : (x : Int) < 5 := by omega
        have hx5n : x < 5 := by omega
        have cz := bas_load Bk'.out (basC_zero (.slice pA pn pc) (.slice eA en ec) (.slice zA Z.length zc) (.slice tA T.length tc) Z T x hx5n)
        have fz := bas_frozen Bk'.out (4 + x)
        go_wp2_with (at_builtin; refine wpList_append_lies _ rfl _ _ 33 rfl (w.heap.size + 3) 3 i0 (.int .i64 0) 1 8 Tryz.underlying33 hi hz0 hz1 hz2 rfl (by decide) _ _ _ rfl (Bz'.out.alloc _) ⟨wr.heap.size, 0, none⟩ 1 1 [.int .i64 (x : Int)] rfl rfl ?c1 ?c2 (by decide) ?c3 ?c4 ?c5 (wr.heap.size + 1) ?c6 ?_)
        case c1 => exact cells_new' _ [.int .i64 (x : Int)] _ (by simp)
        case c2 => intro u hu; simp at hu; subst hu; rfl
        case c3 => unfold maxLen; omega
        case c4 => omega
        case c5 => simp; omega
        case c6 => simp
        intro g cap w3 ho3 hg3 hor hlt3
        have hbg := (ho3.lt g rfl).1
        have Bk3 := bk_grown hg3 (bk_alloc Bk'.out _) (not_own Bz'.out (by omega))
        have M3 := bk_grown hg3 (bk_alloc M0 _) (not_own Bz'.out (by omega))
        have Bt3 := Lib.hid (owns_grown (owns_below Bt'.out (new_below _ _)) hg3 fun g' e1 e2 => Bap'.out g' e2.symm e1)
        have hr3 : Hid (∃ c, w3.heap[w.heap.size + 1]? = some (.cells c 160 (0, 0)) ∧ c.size = 17) := by
          obtain ⟨c, h1, h2⟩ := hr.out
          exact ⟨c, bk_grown hg3 (bk_alloc h1 _) (not_own Bz'.out (by omega)), h2⟩
        have ap3 := Lib.hid (show ∀ g', (Value.slice (some ⟨g, 0, none⟩) (Z.length + 1) cap).ownBlock = some g' → (Value.slice tA T.length tc).ownBlock ≠ some g' from fun g' e1 e2 => by
          cases e1
          rcases hor with h | h
          · exact Bap'.out g h e2
          · have := (Bt'.out.lt g e2).2
            omega)
        have hbw3 : Below w.heap.size w w3 := grown_below (via hbw (new_below _ _)) hg3 fun b e => by have := (Bz'.out.lt b e).1; omega
        have hsz3 : wr.heap.size + 1 ≤ w3.heap.size := by have := hg3.size; simpa using this
        have CB3 := bas4 Bk3
        have cz3 := bas_load Bk3 (basC_zero (.slice pA pn pc) (.slice eA en ec) (.slice zA Z.length zc) (.slice tA T.length tc) Z T x hx5n)
        have fz3 := bas_frozen Bk3 (4 + x)
        have ho3' : Hid (w3.ownsRow (w.heap.size + 3) 3 1 (.slice (some ⟨g, 0, none⟩) (Z.length + 1) cap) (Z.length + 1) ((natZ (Z ++ [x])).map (Value.int .i64))) := Lib.hid (by
          have e : (natZ (Z ++ [x])).map (Value.int .i64) = (natZ Z).map (Value.int .i64) ++ [.int .i64 (x : Int)] := by simp [natZ]
          rw [e]
          exact ho3)
        have Bk3' := Lib.hid Bk3
        clear CB cz fz Bk3 ho3 hg3 hor Bz' Bt' Bk' Bap' hr C0 M0
        go_wp2
        go_roundw
        case rel =>
          refine ⟨k + 1, by omega, by go_num, bk_set (bk_set M3 (by dsimp only; omega) _) (by dsimp only; omega) _, ?_, ⟨.slice (some ⟨g, 0, none⟩) (Z.length + 1) cap, .slice tA T.length tc, ?_, ?_, ?_, ap3.out⟩, (hbw3.setCell (by dsimp only; omega) _).setCell (by dsimp only; omega) _, by simp; omega⟩
          · obtain ⟨c, h1, h2⟩ := hr3.out
            exact ⟨c, bk_set (bk_set h1 (by dsimp only; omega) _) (by dsimp only; omega) _, h2⟩
          · rw [hzs.out, hts.out, if_pos hxp, if_pos hxp]
            exact bk_here (bk_here Bk3'.out _ (basC_set2 ..)) _ (basC_setz _ _ _ _ _ _ x hx5n)
          · rw [hzs.out, if_pos hxp, List.length_append]
            exact ownsRow_setCell_below (ownsRow_setCell_below ho3'.out (by dsimp only; omega) _) (by dsimp only; omega) _
          · rw [hts.out, if_pos hxp]
            exact ownsRow_setCell_below (ownsRow_setCell_below Bt3.out (by dsimp only; omega) _) (by dsimp only; omega) _
        case measure => first | (simp [intOf]; done) | (simp [intOf]; omega)
      · obtain ⟨y, hy⟩ : ∃ y, x - pn = y := ⟨_, rfl⟩
        have hxI : (pn : Int) ≤ (x : Int) := by omega
        have hw1 : IntKind.i64.wrap ((x : Int) - (pn : Int)) = (y : Int) := by rw [IntWalk.i64_in _ (by omega)]; omega
        have hx8 : (y : Int) < 8 := by omega
        have hx8n : y < 8 := by omega
        rw [hy] at hts
        have cz := bas_load Bk'.out (basC_tight (.slice pA pn pc) (.slice eA en ec) (.slice zA Z.length zc) (.slice tA T.length tc) Z T y hx8n)
        have fz := bas_frozen Bk'.out (9 + y)
        clear hy
        go_wp2_with (at_builtin; refine wpList_append_lies _ rfl _ _ 33 rfl (w.heap.size + 3) 3 i0 (.int .i64 0) 1 8 Tryz.underlying33 hi hz0 hz1 hz2 rfl (by decide) _ _ _ rfl (Bt'.out.alloc _) ⟨wr.heap.size, 0, none⟩ 1 1 [.int .i64 (y : Int)] rfl rfl ?c1 ?c2 (by decide) ?c3 ?c4 ?c5 (wr.heap.size + 1) ?c6 ?_)
        case c1 => exact cells_new' _ [.int .i64 (y : Int)] _ (by simp)
        case c2 => intro u hu; simp at hu; subst hu; rfl
        case c3 => unfold maxLen; omega
        case c4 => omega
        case c5 => simp; omega
        case c6 => simp
        intro g cap w3 ho3 hg3 hor hlt3
        have hbg := (ho3.lt g rfl).1
        have Bk3 := bk_grown hg3 (bk_alloc Bk'.out _) (not_own Bt'.out (by omega))
        have M3 := bk_grown hg3 (bk_alloc M0 _) (not_own Bt'.out (by omega))
        have Bz3 := Lib.hid (owns_grown (owns_below Bz'.out (new_below _ _)) hg3 fun g' e1 e2 => Bap'.out g' e1 e2.symm)
        have hr3 : Hid (∃ c, w3.heap[w.heap.size + 1]? = some (.cells c 160 (0, 0)) ∧ c.size = 17) := by
          obtain ⟨c, h1, h2⟩ := hr.out
          exact ⟨c, bk_grown hg3 (bk_alloc h1 _) (not_own Bt'.out (by omega)), h2⟩
        have ap3 := Lib.hid (show ∀ g', (Value.slice zA Z.length zc).ownBlock = some g' → (Value.slice (some ⟨g, 0, none⟩) (T.length + 1) cap).ownBlock ≠ some g' from fun g' e1 e2 => by
          cases e2
          rcases hor with h | h
          · exact Bap'.out g e1 h
          · have := (Bz'.out.lt g e1).2
            omega)
        have hbw3 : Below w.heap.size w w3 := grown_below (via hbw (new_below _ _)) hg3 fun b e => by have := (Bt'.out.lt b e).1; omega
        have hsz3 : wr.heap.size + 1 ≤ w3.heap.size := by have := hg3.size; simpa using this
        have CB3 := bas4 Bk3
        have cz3 := bas_load Bk3 (basC_tight (.slice pA pn pc) (.slice eA en ec) (.slice zA Z.length zc) (.slice tA T.length tc) Z T y hx8n)
        have fz3 := bas_frozen Bk3 (9 + y)
        have ho3' : Hid (w3.ownsRow (w.heap.size + 3) 3 1 (.slice (some ⟨g, 0, none⟩) (T.length + 1) cap) (T.length + 1) ((natZ (T ++ [y])).map (Value.int .i64))) := Lib.hid (by
          have e : (natZ (T ++ [y])).map (Value.int .i64) = (natZ T).map (Value.int .i64) ++ [.int .i64 (y : Int)] := by simp [natZ]
          rw [e]
          exact ho3)
        have Bk3' := Lib.hid Bk3
        clear CB cz fz Bk3 ho3 hg3 hor Bz' Bt' Bk' Bap' hr C0 M0
        go_wp2
        go_roundw
        case rel =>
          refine ⟨k + 1, by omega, by go_num, bk_set (bk_set M3 (by dsimp only; omega) _) (by dsimp only; omega) _, ?_, ⟨.slice zA Z.length zc, .slice (some ⟨g, 0, none⟩) (T.length + 1) cap, ?_, ?_, ?_, ap3.out⟩, (hbw3.setCell (by dsimp only; omega) _).setCell (by dsimp only; omega) _, by simp; omega⟩
          · obtain ⟨c, h1, h2⟩ := hr3.out
            exact ⟨c, bk_set (bk_set h1 (by dsimp only; omega) _) (by dsimp only; omega) _, h2⟩
          · rw [hzs.out, hts.out, if_neg hxp, if_neg hxp]
            exact bk_here (bk_here Bk3'.out _ (basC_set3 ..)) _ (basC_sett _ _ _ _ _ _ y hx8n)
          · rw [hzs.out, if_neg hxp]
            exact ownsRow_setCell_below (ownsRow_setCell_below Bz3.out (by dsimp only; omega) _) (by dsimp only; omega) _
          · rw [hts.out, if_neg hxp, List.length_append]
            exact ownsRow_setCell_below (ownsRow_setCell_below ho3'.out (by dsimp only; omega) _) (by dsimp only; omega) _
        case measure => first | (simp [intOf]; done) | (simp [intOf]; omega)
    · obtain rfl : k = N := by omega
      have hall : l.take k = l := by rw [← hN'.out, List.take_length]
      clear CB
      rw [hall, hZF'.out, hTF'.out] at Bk
      rw [hall, hZF'.out] at Bz
      rw [hall, hTF'.out] at Bt
      have Bz' := Lib.hid Bz
      have Bt' := Lib.hid Bt
      clear hlt hall Bap Bz Bt
      obtain ⟨cr, hr1, hr2⟩ := hr.out
      go_wp2_with (first
        | (refine wpList_load_block (by with_reducible rfl) (.tmp 5) 160 (by with_reducible rfl) (w.heap.size + 2) (basC (.slice pA pn pc) (.slice eA en ec) (.slice zA ZF.length zc) (.slice tA TF.length tc) ZF TF) 160 ?lp (ha17 _) (hs17 _) ?lb ?_)
        | (refine wpList_store_block (by with_reducible rfl) (.tmp 4) (.tmp 46) 160 (by with_reducible rfl) (w.heap.size + 1) (basC (.slice pA pn pc) (.slice eA en ec) (.slice zA ZF.length zc) (.slice tA TF.length tc) ZF TF) cr.toList 160 ?sp ?sq (hs17 _) ?sb ?sl (basC_one rfl rfl rfl rfl) ?_))
      case lp => rfl
      case lb => exact Bk
      case sb => rw [Array.toArray_toList]; exact hr1
      case sl => rw [Array.length_toList, hr2]; rfl
      intro w2 hblk2 hg2 hsz2
      have hbw2 : Below w.heap.size w w2 := grown_below hbw hg2 fun b e => by have := Option.some.inj e; omega
      have Bz2 := owns_grown Bz'.out hg2 fun g' e1 e2 => by have := (Bz'.out.lt g' e1).1; have := Option.some.inj e2; omega
      have Bt2 := owns_grown Bt'.out hg2 fun g' e1 e2 => by have := (Bt'.out.lt g' e1).1; have := Option.some.inj e2; omega
      have Bz3 := Lib.hid Bz2
      have Bt3 := Lib.hid Bt2
      clear Bk Bz2 Bt2 Bz' Bt' hg2 hr1 hr2 C0 M0 hr
      go_wp2
      refine bodyPost_ret (v := .agg (basC (.slice pA pn pc) (.slice eA en ec) (.slice zA ZF.length zc) (.slice tA TF.length tc) ZF TF).toArray) ?_ rfl ⟨⟨_, _, rfl, owns_base (base := w.heap.size) Bz3.out (Nat.le_add_right _ 3), owns_base (base := w.heap.size) Bt3.out (Nat.le_add_right _ 3)⟩, hbw2⟩
      have hrun : (loadVar 160 ⟨w.heap.size + 1, 0, none⟩).run Tryz.prog w2 = .ok (.agg (basC (.slice pA pn pc) (.slice eA en ec) (.slice zA ZF.length zc) (.slice tA TF.length tc) ZF TF).toArray) w2 := run_loadBlock (ha17 _) (hs17 _) hblk2
      exact results_cell1 rfl rfl hrun
end Go.Proofs
