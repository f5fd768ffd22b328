import Derived.Test.YtbikblifpfokaaaGreatDoorMg17
import Derived.Test.YtbikblifpfokaaaGreatDoorMg12
import Derived.Test.YtbikblifpfokaaaGreatDoorMg13
import Derived.Test.YtbikblifpfokaaaGreatDoorMg15
import Derived.Test.YtbikblifpfokaaaGreatDoorMg11
set_option linter.unusedSimpArgs false
set_option linter.unusedVariables false
namespace Go.Proofs
open Go.RowKit

theorem push_own {x : World} {base : Nat} {v : Value} {n : Nat} {xs : List Nat} (h : x.ownsRow base 3 1 v n (xs.flatMap Nc)) (a : Nat) (hn : n ≤ 1000) (hb : base ≤ x.heap.size) :
    ∃ v' x', (Builtin.append_ #[26, 26] 26 #[v, .slice (some ⟨x.heap.size, 0, none⟩) 1 1]).run Tryz.prog (x.alloc (.cells #[.int .i64 (a : Int)] 3)) = .ok v' x' ∧ x'.ownsRow base 3 1 v' (n + 1) ((xs ++ [a]).flatMap Nc) ∧ x.grownBy x' v.ownBlock ∧ (v'.ownBlock = v.ownBlock ∨ ∃ r, v'.ownBlock = some r ∧ x.heap.size ≤ r) := by
  obtain ⟨i3, z3, hi3, hz3, hi3s, hz3s, hi3b⟩ := info_of (t := 3) (n := 1) (b := 8) (by kernel_rfl)
  obtain ⟨v', x', r1, r2, r3⟩ := run_append3 (P := Tryz.prog) (w := x.alloc (.cells #[.int .i64 (a : Int)] 3)) base 26 26 3 i3 z3 1 8 Tryz.underlying26 hi3 hz3 hi3s hi3b hz3s v n (xs.flatMap Nc) (h.alloc _) ⟨x.heap.size, 0, none⟩ 1 1 [.int .i64 (a : Int)] rfl (fun j u hj => World.news_of_block (bk_new x (.cells #[.int .i64 (a : Int)] 3) rfl) j u hj) (by intro u hu; simp at hu; subst hu; rfl) (by decide) (by unfold maxLen; omega) (by omega) (by simp; omega)
  refine ⟨v', x', r1, by rw [List.flatMap_append]; exact r2, ?_, ?_⟩
  · rcases r3 with ⟨hg, -⟩ | ⟨hg, -⟩
    · exact ⟨hg.os, hg.tape, hg.output, by have := hg.size; simp at this; omega, fun k hk _ => (hg.block k (by simp; omega) (by simp)).trans (Below.heap_alloc x _ k hk)⟩
    · exact ⟨hg.os, hg.tape, hg.output, by have := hg.size; simp at this; omega, fun k hk hne => (hg.block k (by simp; omega) hne).trans (Below.heap_alloc x _ k hk)⟩
  · rcases r3 with ⟨-, hg⟩ | ⟨-, hg⟩
    · exact .inr ⟨_, hg, by simp⟩
    · exact .inl hg
theorem setsTo_lt (al : Nat → Nat → Bool) : ∀ i, (setsTo al i).1.length = i ∧ (∀ h ∈ (setsTo al i).2, h < i) ∧ (setsTo al i).2.length ≤ i
  | 0 => ⟨rfl, (fun h hh => by cases hh), Nat.le_refl _⟩
  | i + 1 => by
    obtain ⟨h1, h2, h3⟩ := setsTo_lt al i
    unfold setsTo
    split
    · exact ⟨by simp [h1], fun h hh => Nat.lt_succ_of_lt (h2 h hh), by dsimp only; omega⟩
    · refine ⟨by simp [h1], fun h hh => ?_, by simp; omega⟩
      rcases List.mem_append.1 hh with hh | hh
      · exact Nat.lt_succ_of_lt (h2 h hh)
      · rw [List.mem_singleton] at hh
        omega
set_option maxRecDepth 100000 in
set_option maxHeartbeats 2000000 in
theorem sets_any (mA cA : Option Addr) (mk : List ByteArray) (cl : List Cl) (mc cc : Nat) (bg : Int) (w : World) (hR : RightB mk bg cl) (hat : BkAt w mA mk cA cl) :
    Calls Tryz.prog 24 #[.agg #[.slice mA mk.length mc, .int .i64 bg, .slice cA cl.length cc]] w fun e w' => (∃ v, e = .returned v ∧ w'.ownsRow w.heap.size 3 1 v cl.length ((setsTo (alC mk.length cl) cl.length).1.flatMap Nc)) ∧ Below w.heap.size w w' := by
  have hN8 := hR.c1
  have hI := Lib.hid fun (i : Nat) (A : Option Addr) (l : List Nat) (c : Nat) (P6 : Nat) W (hb : Below w.heap.size w W) hB h3 h6 hi hl hlk hal => indexAlike_any mA cA mk cl mc cc bg w.heap.size (w.heap.size + 1) P6 i A l c W hR (hat.below hb) hB h3 h6 hi hl hlk hal
  obtain ⟨al, hal⟩ : ∃ al : Nat → Nat → Bool, alC mk.length cl = al := ⟨_, rfl⟩
  have hI2 : Hid (∀ (i : Nat) (A : Option Addr) (l : List Nat) (c : Nat) (P6 : Nat) W, Below w.heap.size w W → W.heap[w.heap.size]? = some (BKo mA mk.length mc bg cA cl.length cc) → W.heap[w.heap.size + 1]? = some (.cells #[.func (.func 54) #[] #[.pointer (some ⟨w.heap.size, 0, none⟩)]] 102 (0, 0)) → W.heap[P6]? = some (.cells #[.int .i64 i] 3 (0, 0)) → i < cl.length → l.length ≤ 100 → (∀ k ∈ l, k < cl.length) → At 1 Nc W A l →
      Calls Tryz.prog 56 #[.slice A l.length c, .func (.func 57) #[] #[.pointer (some ⟨w.heap.size + 1, 0, none⟩), .pointer (some ⟨P6, 0, none⟩)]] W fun e w' => e = .returned (.int .i64 (match l.findIdx? (fun k => al i k) with | some n => (n : Int) | none => -1)) ∧ Below W.heap.size W w') := by
    rw [← hal]
    exact fun i A l c P6 W hb hB h3 h6 hi hl hlk hal => hI.out i A l c P6 W hb hB h3 h6 hi hl hlk hal
  rw [hal]
  clear hI hal hR hat
  obtain ⟨M, hM⟩ : ∃ M, mk.length = M := ⟨_, rfl⟩
  obtain ⟨N, hN⟩ : ∃ N, cl.length = N := ⟨_, rfl⟩
  unfold BKo at hI2
  rw [hM, hN] at hI2
  rw [hN] at hN8
  rw [hM, hN]
  clear hM hN
  have hmf : ∀ (fn : Fn) (first cap : Array Value) (w : World), (Instr.makeFunc fn first cap).run Tryz.prog w = .ok (.func fn first cap) w := fun _ _ _ _ => rfl
  have hsf : ∀ (W : World) (a : Addr) (f : Fn) (x y : Array Value), (store a (.func f x y)).run Tryz.prog W = stored Tryz.prog W a (.func f x y) .plain := fun W a f x y => run_store Tryz.prog W a _ _ rfl
  go_enter Tryz.func24, Tryz.ntmps24
  go_wp2_with fail
  refine wp_world ?_
  intro W hW_W
  have hb_W : Below w.heap.size w W := by rw [hW_W]; go_grown
  have B0 : W.heap[w.heap.size]? = some (.cells #[.slice mA M mc, .int .i64 bg, .slice cA N cc] 62 (0, 0)) := by rw [hW_W]; (repeat (first | assumption | (refine bk_new _ _ ?_; (simp; done)) | refine bk_drew ?_ | refine bk_alloc ?_ _ | refine bk_set ?_ (by simp <;> omega) _))
  have P3 : W.heap[w.heap.size + 1]? = some (.cells #[.func (.func 54) #[] #[.pointer (some ⟨w.heap.size, 0, none⟩)]] 102 (0, 0)) := by rw [hW_W]; (repeat (first | assumption | (refine bk_new _ _ ?_; (simp; done)) | refine bk_drew ?_ | refine bk_alloc ?_ _ | refine bk_set ?_ (by simp <;> omega) _))
  have hsW : W.heap.size = w.heap.size + 2 := by rw [hW_W]; simp
  clear hW_W
  go_loopw [13, 4, 5] (fun j v4 v5 wr => ∃ i : Nat, i ≤ N ∧ j = .int .i64 i ∧ Below w.heap.size w wr ∧ wr.heap[w.heap.size]? = some (.cells #[.slice mA M mc, .int .i64 bg, .slice cA N cc] 62 (0, 0)) ∧ wr.heap[w.heap.size + 1]? = some (.cells #[.func (.func 54) #[] #[.pointer (some ⟨w.heap.size, 0, none⟩)]] 102 (0, 0)) ∧
      Hid (wr.ownsRow (w.heap.size + 2) 3 1 v4 (setsTo al i).1.length ((setsTo al i).1.flatMap Nc) ∧ wr.ownsRow (w.heap.size + 2) 3 1 v5 (setsTo al i).2.length ((setsTo al i).2.flatMap Nc) ∧ ∀ g, v4.ownBlock = some g → v5.ownBlock ≠ some g))
    (fun j _ _ _ => N - (intOf j).toNat)
  case atStart => exact ⟨0, Nat.zero_le _, rfl, hb_W, B0, P3, World.ownsRow_nil _ _ _ _, World.ownsRow_nil _ _ _ _, fun g h => by cases h⟩
  case round =>
    clear B0 P3
    obtain ⟨i, hi, rfl, hbw, B0, P3, ho⟩ := hrel
    obtain ⟨hlen, hlt5, hle5⟩ := setsTo_lt al i
    by_cases hlt : i < N
    · obtain ⟨ho4, ho5, hne⟩ := ho.out
      obtain ⟨A5, c5, rfl, hat5⟩ := at_of_owns (cs := Nc) (sz := 1) (fun _ => rfl) ho5
      have hiI : (i : Int) < (N : Int) := by omega
      have hbp := new_below wr (.cells #[.int .i64 (i : Int)] 3)
      have hCi := Lib.hid (hI2.out i A5 (setsTo al i).2 c5 wr.heap.size (wr.alloc (.cells #[.int .i64 (i : Int)] 3)) (via hbw hbp) (bk_keep hbp B0) (bk_keep hbp P3) (bk_new _ _ rfl) hlt (by omega) (fun k hk => by have := hlt5 k hk; omega) (hat5.below hbp))
      have P6 := bk_new wr (.cells #[.int .i64 (i : Int)] 3) rfl
      have hst : setsTo al (i + 1) = match (setsTo al i).2.findIdx? (fun k => al i k) with
        | some n => ((setsTo al i).1 ++ [n], (setsTo al i).2)
        | none => ((setsTo al i).1 ++ [(setsTo al i).2.length], (setsTo al i).2 ++ [i]) := rfl
      have hst' := Lib.hid hst
      generalize (setsTo al i).1 = O at *
      generalize (setsTo al i).2 = H at *
      cases hf : H.findIdx? (fun k => al i k) with
      | some n =>
        rw [hf] at hCi hst'
        have hn0 : ¬ (n : Int) < 0 := by omega
        have hst2 := Lib.hid hst'.out
        clear hst hst' hf ho
        have ho4' := Lib.hid ho4
        have ho5' := Lib.hid ho5
        have hne' := Lib.hid hne
        clear ho4 ho5 hne hat5
        go_wp2_with (first
          | (go_at_call 56
             refine hCi.out.mono ?_
             rintro e w1 ⟨rfl, hb1⟩
             have hb1' := via hbp hb1
             have hs1 := hb1'.size
             have hsz : w.heap.size + 2 ≤ w1.heap.size := by have := bk_size P3; omega
             obtain ⟨v4', w2, hr4, hq4, hg4, hd4⟩ := push_own (owns_below ho4'.out hb1') n (by omega) hsz)
          | (at_builtin; refine wpList_app rfl _ _ 26 rfl rfl rfl hr4 ?_))
        go_roundw
        case rel =>
          have hr0 : ∀ r, u4.ownBlock = some r → w.heap.size + 2 ≤ r := fun r e => (ho4'.out.lt r e).1
          have hk : ∀ {k : Nat} {o : Obj}, k < w.heap.size + 2 → wr.heap[k]? = some o → w2.heap[k]? = some o := fun hk h => by
            rw [hg4.block _ (bk_size (bk_keep hb1' h)) (fun e => by have := hr0 _ e.symm; omega)]
            exact bk_keep hb1' h
          refine ⟨i + 1, by omega, by go_num, (via hbw hb1').grown hg4 (via hbw hb1').size (fun r e => by have := hr0 r e; omega), hk (by omega) B0, hk (by omega) P3, ?_, ?_, ?_⟩
          · rw [hst2.out, List.length_append]
            exact hq4
          · rw [hst2.out]
            exact owns_kept (owns_below ho5'.out hb1') fun g hg => hg4.block g ((owns_below ho5'.out hb1').lt g hg).2 (fun e => hne'.out g e.symm hg)
          · intro g hg h5
            rcases hd4 with h | ⟨r, h, hr⟩
            · exact hne'.out g (h ▸ hg) h5
            · rw [hg] at h
              cases h
              have := (ho5'.out.lt g h5).2
              omega
        case measure => simp [intOf]; omega
      | none =>
        rw [hf] at hCi hst'
        have hst2 := Lib.hid hst'.out
        clear hst hst' hf ho
        have ho4' := Lib.hid ho4
        have ho5' := Lib.hid ho5
        have hne' := Lib.hid hne
        clear ho4 ho5 hne hat5
        go_wp2_with (first
          | (go_at_call 56
             refine hCi.out.mono ?_
             rintro e w1 ⟨rfl, hb1⟩
             have hb1' := via hbp hb1
             have hs1 := hb1'.size
             have P6' := bk1 (bk_keep hb1 P6)
             have hsz : w.heap.size + 2 ≤ w1.heap.size := by have := bk_size P3; omega
             obtain ⟨v5', w2, hr5, hq5, hg5, hd5⟩ := push_own (owns_below ho5'.out hb1') i (by omega) hsz
             have hsz2 := hg5.size
             have ho42 : w2.ownsRow (w.heap.size + 2) 3 1 u4 O.length (O.flatMap Nc) := owns_kept (owns_below ho4'.out hb1') fun g hg => hg5.block g ((owns_below ho4'.out hb1').lt g hg).2 (fun e => hne'.out g hg e.symm)
             obtain ⟨v4', w3, hr4, hq4, hg4, hd4⟩ := push_own ho42 H.length (by omega) (by omega))
          | (at_builtin; refine wpList_app rfl (.tmp 23) (.tmp 25) 26 rfl rfl rfl hr5 ?_)
          | (at_builtin; refine wpList_app rfl (.tmp 27) (.tmp 29) 26 rfl rfl rfl hr4 ?_))
        go_roundw
        case rel =>
          have hr0 : ∀ r, u4.ownBlock = some r → w.heap.size + 2 ≤ r := fun r e => (ho4'.out.lt r e).1
          have hr5' : ∀ r, Value.ownBlock (.slice A5 H.length c5) = some r → w.heap.size + 2 ≤ r := fun r e => (ho5'.out.lt r e).1
          have hk : ∀ {k : Nat} {o : Obj}, k < w.heap.size + 2 → wr.heap[k]? = some o → w3.heap[k]? = some o := fun {k o} hk h => by
            have h1 := bk_keep hb1' h
            have h2 : w2.heap[k]? = some o := by
              rw [hg5.block _ (bk_size h1) (fun e => by have := hr5' _ e.symm; omega)]
              exact h1
            rw [hg4.block _ (bk_size h2) (fun e => by have := hr0 _ e.symm; omega)]
            exact h2
          have hb2 : Below w.heap.size w w2 := (via hbw hb1').grown hg5 (via hbw hb1').size (fun r e => by have := hr5' r e; omega)
          refine ⟨i + 1, by omega, by go_num, hb2.grown hg4 hb2.size (fun r e => by have := hr0 r e; omega), hk (by omega) B0, hk (by omega) P3, ?_, ?_, ?_⟩
          · rw [hst2.out, List.length_append]
            exact hq4
          · rw [hst2.out, List.length_append]
            refine owns_kept hq5 fun g hg => hg4.block g (hq5.lt g hg).2 (fun e => ?_)
            rcases hd5 with h | ⟨r, h, hr⟩
            · exact hne'.out g e.symm (h ▸ hg)
            · rw [hg] at h
              cases h
              have := (ho4'.out.lt g e.symm).2
              have := hb1'.size
              omega
          · intro g hg h5
            have q5 := (hq5.lt g h5).2
            rcases hd4 with h | ⟨r, h, hr⟩
            · rcases hd5 with h' | ⟨r', h', hr'⟩
              · exact hne'.out g (h ▸ hg) (h' ▸ h5)
              · rw [h5] at h'
                cases h'
                have := (ho4'.out.lt g (h ▸ hg)).2
                have := hb1'.size
                omega
            · rw [hg] at h
              cases h
              omega
        case measure => simp [intOf]; omega
    · have hiN : i = N := by omega
      subst hiN
      have ho4 := Lib.hid ho.out.1
      clear ho
      rw [hlen] at ho4
      go_wp2
      refine bodyPost_ret (v := u4) ?_ rfl ⟨⟨u4, rfl, owns_base ho4.out (Nat.le_add_right _ _)⟩, hbw⟩
      simp [results, Tryz.results24, go_sem]
end Go.Proofs

set_option linter.unusedSimpArgs false
set_option linter.unusedVariables false
namespace Go.Proofs
open Go.RowKit

set_option maxRecDepth 100000 in
set_option maxHeartbeats 2000000 in
/-- The step from set to set (Least$1). -/
theorem least1_any (mA cA : Option Addr) (mk : List ByteArray) (cl : List Cl) (mc cc : Nat) (bg : Int) (K6 K4 K7 MB : Nat) (A6 : Option Addr) (c6 : Nat) (SL : List Nat) (HM : List (Nat × Nat)) (n a h t r : Nat) (w : World) (hR : RightB mk bg cl) (hat : BkAt w mA mk cA cl)
    (h6 : w.heap[K6]? = some (.cells #[.slice A6 SL.length c6] 26 (0, 0))) (hS : At 1 Nc w A6 SL) (h4 : w.heap[K4]? = some (BKo mA mk.length mc bg cA cl.length cc)) (h7 : w.heap[K7]? = some (.cells #[.map (some MB)] 66 (0, 0))) (hM : MapAt encI encI w MB HM)
    (hh : (lkM HM n).getD 0 = h) (hN : h < cl.length) (ha : a < mk.length) (ht : nxC cl h a = t) (hr : SL[t]? = some r) :
    Calls Tryz.prog 27 #[.int .i64 n, .int .i64 a, .pointer (some ⟨K6, 0, none⟩), .pointer (some ⟨K4, 0, none⟩), .pointer (some ⟨K7, 0, none⟩)] w fun e w' => e = .returned (.int .i64 r) ∧ Below w.heap.size w w' := by
  have hNx := Lib.hid fun W (hb : Below w.heap.size w W) => next_any mA cA mk cl mc cc bg h a W hR (hat.below hb) hN ha
  rw [ht] at hNx
  have hlk : ∀ x : Grew w, (Instr.lookup 66 (.map (some MB)) (.int .i64 n) false).run Tryz.prog x.val = .ok (.int .i64 h) x.val := fun x => by
    have := (hM.below x.ok).look (t := 66) key3 Tryz.underlying66 (z := .int .i64 0) (by kernel_rfl) n false
    rw [← hh]
    cases hl : lkM HM n with
    | none => rw [hl] at this; exact this
    | some v => rw [hl] at this; exact this
  obtain ⟨b, o, rfl, hb, hc⟩ := hS t r hr
  have c0 := hc 0 _ rfl
  simp only [Nat.add_zero, Nat.mul_one] at c0
  have htl : t < SL.length := (List.getElem?_eq_some_iff.1 hr).1
  unfold BKo at h4
  have C6 := bk1 h6
  have C4 := bk3 h4
  have C7 := bk1 h7
  have s6 := bk_size h6
  have s4 := bk_size h4
  have s7 := bk_size h7
  generalize SL.length = L at *
  generalize mk.length = M at *
  generalize cl.length = N at *
  have htI : (t : Int) < (L : Int) := by omega
  clear hR hat h6 hS h4 h7 hM hh ht hr hc
  go_enter Tryz.func27, Tryz.ntmps27
  go_wp2_with fail
  refine region_all w (by kernel_rfl) (by kernel_rfl) (Below.refl _ _) ?_
  intro hgc hbx
  repeat (go_big_quiet_step ((go_at_call 28; with_reducible exact Grew.call (hNx.out _ (hbx.out _)))))
  refine wpQuiet_nil ?_
  intro wb hb_wb hw_wb hs_wb
  clear hgc hbx
  go_wp2
  refine bodyPost_ret (v := .int .i64 r) ?_ rfl ⟨rfl, hb_wb⟩
  simp [results, Tryz.results27, go_sem]
theorem flatS_map : ∀ (l : List ByteArray), l.flatMap Sc = l.map Value.string
  | [] => rfl
  | x :: l => by rw [List.flatMap_cons, List.map_cons, flatS_map l]; rfl
theorem cloneTexts_any (A : Option Addr) (l : List ByteArray) (c : Nat) (w : World) (hl : l.length ≤ 1000) (hat : At 1 Sc w A l) :
    Calls Tryz.prog 29 #[.slice A l.length c] w fun e w' => ∃ v', e = .returned v' ∧ w'.ownsRow w.heap.size 9 1 v' l.length (l.flatMap Sc) ∧ Below w.heap.size w w' := by
  cases hA : A with
  | none =>
    have hl0 : l = [] := by
      cases l with
      | nil => rfl
      | cons x l => obtain ⟨b, o, h, -⟩ := hat 0 x rfl; rw [hA] at h; cases h
    subst hl0
    refine (Tryz.slices_Clone_string_nil 0 c w).mono ?_
    rintro e w' ⟨rfl, rfl⟩
    exact ⟨_, rfl, World.ownsRow_nil _ _ _ _, Below.refl _ _⟩
  | some a =>
    by_cases hl0 : l.length = 0
    · have : l = [] := List.eq_nil_of_length_eq_zero hl0
      subst this
      refine (Tryz.slices_Clone_string_zero a c w).mono ?_
      rintro e w' ⟨v', rfl, h1, -, h2⟩
      exact ⟨_, rfl, h1, h2⟩
    · obtain ⟨x, hx⟩ : ∃ x, l[0]? = some x := ⟨_, List.getElem?_eq_getElem (by omega)⟩
      obtain ⟨b, o, ha, -⟩ := hat 0 x hx
      rw [hA] at ha
      cases ha
      refine (Tryz.slices_Clone_string b o l.length c l w (Nat.le_refl _) (by omega) ?_).mono ?_
      · intro j hj
        obtain ⟨b', o', ha', -, hc⟩ := hat j _ (List.getElem?_eq_getElem hj)
        rw [hA] at ha'
        cases ha'
        have := hc 0 _ rfl
        simp only [Nat.mul_one, Nat.add_zero] at this
        rw [this]
        simp [List.getD, List.getElem?_eq_getElem hj]
      · rintro e w' ⟨v', rfl, h1, -, h2⟩
        refine ⟨_, rfl, ?_, h2⟩
        rw [List.take_of_length_le (Nat.le_refl _)] at h1
        rw [flatS_map]
        exact h1
theorem bfsB_len {S : Type} [DecidableEq S] {nx : S → Nat → S} {m : Nat} {b : S} {U : List S} (hb : b ∈ U) (hU : ∀ s ∈ U, ∀ a, a < m → nx s a ∈ U) : (bfsB nx m b U.length).length ≤ U.length := by
  obtain ⟨seen, h⟩ := bfsB_done (next := nx) (m := m) (b := b) U hb hU
  have := h.len U hb hU
  simpa using this
theorem at_putObj {α : Type} {sz : Nat} {cs : α → List Value} {w : World} {A : Option Addr} {l : List α} (h : At sz cs w A l) {r : Nat} {o : Obj} (o' : Obj) (hr : w.heap[r]? = some o) (hc : o.isCells = false) (hne : ∀ x, 0 < (cs x).length) : At sz cs (w.putObj r o') A l := by
  intro k y hy
  obtain ⟨b, p, hA, hlt, hcc⟩ := h k y hy
  exact ⟨b, p, hA, by rw [World.putObj_size]; exact hlt, fun j v hv => cell_putObj _ hr hc (hcc j v hv)⟩
end Go.Proofs

set_option linter.unusedSimpArgs false
set_option linter.unusedVariables false
namespace Go.Proofs
open Go.RowKit

set_option maxRecDepth 100000 in
set_option maxHeartbeats 1000000 in
/-- open of a book that CheckBook finds right: the book itself, and no error. -/
theorem open_ok (mA cA : Option Addr) (m mc n cc : Nat) (bg : Int) (w : World)
    (hC : ∀ W, Below w.heap.size w W → Calls Tryz.prog 53 #[.agg #[.slice mA m mc, .int .i64 bg, .slice cA n cc]] W fun e w' => e = .returned (.tuple #[.int .i64 0, .int .i64 0]) ∧ Below W.heap.size W w') :
    Calls Tryz.prog 23 #[.agg #[.slice mA m mc, .int .i64 bg, .slice cA n cc]] w fun e w' => e = .returned (.tuple #[.agg #[.slice mA m mc, .int .i64 bg, .slice cA n cc], .int .i64 0]) ∧ Below w.heap.size w w' := by
  have hC' := Lib.hid hC
  clear hC
  go_enter Tryz.func23, Tryz.ntmps23
  go_wp2_with (go_at_call 53; refine (hC'.out _ ?_).mono ?_; (· go_grown); rintro e w1 ⟨rfl, hb⟩; have hbw := via (by go_grown : Below w.heap.size w _) hb; have D0 : w1.heap[w.heap.size]? = some (.cells #[.slice mA m mc, .int .i64 bg, .slice cA n cc] 25 (0, 0)) := bk_keep hb (bk_alloc (bk_new w _ rfl) _); have D1 := bk_keep hb (bk_new (w.alloc (.cells #[.slice mA m mc, .int .i64 bg, .slice cA n cc] 25)) _ (by simp : w.heap.size + 1 = _)); have C0 := bk3 D0; have C1 := bk3 D1)
  refine bodyPost_ret (v := .tuple #[.agg #[.slice mA m mc, .int .i64 bg, .slice cA n cc], .int .i64 0]) ?_ rfl ⟨rfl, by go_grown⟩
  simp [results, Tryz.results23, go_sem, *]
end Go.Proofs
