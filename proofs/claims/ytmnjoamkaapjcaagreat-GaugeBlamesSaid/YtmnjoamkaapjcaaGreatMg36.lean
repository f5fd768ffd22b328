import Derived.Test.YtmnjoamkaapjcaaGreatMg30
import Derived.Test.YtmnjoamkaapjcaaGreatMg35
import Derived.Test.YtmnjoamkaapjcaaGreatMg3
import Derived.Test.YtmnjoamkaapjcaaGreatMg29
set_option linter.unusedSimpArgs false
set_option linter.unusedVariables false
namespace Go.Proofs
open Go.RowKit

theorem flatP_take {P : List (Nat × Nat)} {k : Nat} {p : Nat × Nat} (h : P[k]? = some p) : (flatP (P.take (k + 1))).flatMap Ic = (flatP (P.take k)).flatMap Ic ++ [.int .i64 p.1, .int .i64 p.2] := by
  unfold flatP
  rw [List.take_add_one, h, List.flatMap_append, List.flatMap_append]
  rfl
theorem flatP_len : ∀ (P : List (Nat × Nat)), (flatP P).length = 2 * P.length
  | [] => rfl
  | p :: P => by
    have := flatP_len P
    unfold flatP at this ⊢
    rw [List.flatMap_cons, List.length_append, this, List.length_cons, List.length_cons, List.length_cons, List.length_nil]
    omega
theorem grown_below {w x x' : World} {row : Option Nat} (h : Below w.heap.size w x) (hg : x.grownBy x' row) (hr : ∀ b, row = some b → w.heap.size ≤ b) : Below w.heap.size w x' := h.grown hg h.size hr
theorem pow_facts : ∀ k ∈ List.range 9, IntKind.u64.wrap (2 ^ k) = ((2 ^ k : Nat) : Int) ∧ IntKind.u64.wrap (((2 ^ k : Nat) : Int) - 1) = ((2 ^ k - 1 : Nat) : Int) ∧ ((valV (List.replicate k true) : Nat) : Int) = ((2 ^ k - 1 : Nat) : Int) ∧ 0 < 2 ^ k ∧ 2 ^ k ≤ 256 := by decide +kernel
theorem pairs_len {l0 l1 : Int} {rs : List Rd} {ms : List Mv} (h : rs.length ≤ 8) : (allPairs l0 l1 rs ms).length ≤ 64 := by
  have := pout_len (contraAt l0 l1 rs ms) rs.length rs.length
  have h2 : rs.length * rs.length ≤ 8 * 8 := Nat.mul_le_mul h h
  unfold allPairs
  omega
def setOfP (p : Value) (w : World) : Nat := match p with
  | .pointer (some a) => (match w.cell? a with
    | some (.int _ s) => s.toNat
    | _ => 0)
  | _ => 0
theorem setOfP_at {w : World} {S s : Nat} {t : TypeId} (h : w.heap[S]? = some (.cells #[.int .u64 (s : Int)] t (0, 0))) : setOfP (.pointer (some ⟨S, 0, none⟩)) w = s := by
  unfold setOfP
  dsimp only
  rw [(bk1 h).1]
  simp
set_option maxRecDepth 100000 in
set_option maxHeartbeats 10000000 in
theorem blamed_any (l0 l1 : Int) (A A2 : Option Addr) (rs : List Rd) (ms : List Mv) (c c2 : Nat) (w : World)
    (hs : ∀ x ∈ rs, x.c.size ≤ 9223372036854775807) (hat : At 4 Rd.cs w A rs)
    (hs2 : ∀ x ∈ ms, x.f.size ≤ 9223372036854775807 ∧ x.t.size ≤ 9223372036854775807) (hat2 : At 4 Mv.cs w A2 ms) (hok : (checkB l0 l1 rs ms).2 = 0) (hn8 : rs.length ≤ 8) :
    Calls Tryz.prog 6 #[.agg #[.int .i64 l0, .int .i64 l1, .slice A rs.length c, .slice A2 ms.length c2]] w fun e w' =>
      (∃ A3 cap, e = .returned (.tuple #[.slice A3 (blamedL (allPairs l0 l1 rs ms) rs.length).length cap, .int .i64 0]) ∧ At 1 Ic w' A3 (blamedL (allPairs l0 l1 rs ms) rs.length)) ∧ Below w.heap.size w w' := by
  have hO := Lib.hid fun W hb => openBook_any l0 l1 A A2 rs ms c c2 W hs (hat.below hb) hs2 (hat2.below hb)
  have hP := Lib.hid fun W hW => pairs_any l0 l1 A A2 rs ms c c2 W (right_of hok) (hat.below hW) (hat2.below hW)
  have hPl := pairs_len (l0 := l0) (l1 := l1) (rs := rs) (ms := ms) hn8
  have hPi := Lib.hid (pairs_in (l0 := l0) (l1 := l1) (rs := rs) (ms := ms))
  rw [hok] at hO
  generalize allPairs l0 l1 rs ms = P at *
  generalize rs.length = n at *
  clear hs hs2 hat hat2 hok
  obtain ⟨i0, z0, hi, hz0, hz1, hzs, hz2⟩ := info_of (t := 3) (n := 1) (b := 8) (by kernel_rfl)
  have hsf : ∀ (W : World) (a : Addr) (f : Fn) (x y : Array Value), (store a (.func f x y)).run Tryz.prog W = stored Tryz.prog W a (.func f x y) .plain := fun W a f x y => run_store Tryz.prog W a _ _ rfl
  go_enter Tryz.func6, Tryz.ntmps6
  go_wp2_with (first | (go_at_call 24; refine (hO.out _ ?_).mono ?_; (· go_grown); rintro e w1 ⟨rfl, hb⟩; have hbw := via (by go_grown : Below w.heap.size w _) hb; have hsw := hbw.size) | (go_at_call 25; refine (hP.out _ ?_).mono ?_; (· go_grown); rintro e w2 ⟨⟨A3, cap3, rfl, hat3⟩, hb⟩; replace hbw := via (by go_grown : Below w.heap.size w _) hb))
  obtain ⟨X4, hX4⟩ : ∃ X4, w1.heap.size = X4 := ⟨_, rfl⟩
  obtain ⟨B, hB⟩ : ∃ B, w2.heap.size = B := ⟨_, rfl⟩
  have hwB : w.heap.size ≤ B := by rw [← hB]; exact hbw.size
  have hat3' := Lib.hid hat3
  obtain ⟨m, hm⟩ : ∃ m, P.length = m := ⟨_, rfl⟩
  have hm' := Lib.hid hm
  rw [hm] at hPl ⊢
  rw [hX4, hB]
  clear hat3 hm hX4 hsw hb
  refine wp_world ?_
  intro W1 hW_W1
  have hb_W1 : Below w.heap.size w W1 := by rw [hW_W1]; go_grown
  have D0 : W1.heap[B]? = some (.cells #[.slice none 0 0] 28 (0, 0)) := by rw [hW_W1]; exact bk_new _ _ hB.symm
  have hat3W := Lib.hid (hat3'.out.below (by rw [hW_W1]; exact new_below _ _ : Below w2.heap.size w2 W1))
  have hneB : Hid (0 < P.length → ∀ p, A3 = some p → p.block ≠ B) := by
    rintro hp p rfl e
    obtain ⟨y, hy⟩ : ∃ y, P[0]? = some y := ⟨_, List.getElem?_eq_getElem hp⟩
    obtain ⟨b, o, hA, hb, -⟩ := hat3'.out 0 y hy
    injection hA with hA
    subst hA
    dsimp only at e
    omega
  have hsB := bk_size D0
  clear hW_W1 hat3' hB hbw
  go_loopw [29] (fun i wr => ∃ (k : Nat) (Av : Option Addr) (cv : Nat), k ≤ m ∧ i = .int .i64 k ∧ wr.ownsRow W1.heap.size 3 1 (.slice Av (2 * k) cv) (2 * k) ((flatP (P.take k)).flatMap Ic) ∧ Below w.heap.size w wr ∧ Gr B W1 wr ∧ wr.heap[B]? = some (.cells #[.slice Av (2 * k) cv] 28 (0, 0))) (fun i _ => m - (intOf i).toNat)
  case atStart => exact ⟨0, none, 0, by omega, rfl, World.ownsRow_nil _ _ _ _, hb_W1, .refl _ _, D0⟩
  case round =>
    clear D0
    obtain ⟨k, Av, cv, hk, rfl, hown, hbr, hgr, D0⟩ := hrel
    have C0 := bk1 D0
    have hown' := Lib.hid hown
    clear hown
    by_cases hlt : k < m
    · obtain ⟨p, hp⟩ : ∃ p, P[k]? = some p := ⟨_, List.getElem?_eq_getElem (by rw [hm'.out]; exact hlt)⟩
      obtain ⟨b, o, rfl, hbl, hc⟩ := (hgr.at hat3W.out hneB.out) k p hp
      have hfl := Lib.hid (flatP_take hp)
      have c0 := hc 0 _ rfl
      have c1 := hc 1 _ rfl
      simp only [Nat.add_zero] at c0
      have hkI : (k : Int) < (m : Int) := by omega
      clear hc hp
      go_wp2_with (at_builtin; refine wpList_append_own _ rfl _ _ 28 rfl W1.heap.size 3 i0 z0 1 8 Tryz.underlying28 hi hz0 hz1 hz2 hzs (by decide) _ _ _ rfl (owns_below hown'.out (by go_grown)) ⟨wr.heap.size + 1, 0, none⟩ 2 2 [.int .i64 p.1, .int .i64 p.2] rfl rfl ?c1 ?c2 ?c3 ?c4 ?c5 ?_)
      case c1 => exact cells_new' _ [.int .i64 p.1, .int .i64 p.2] _ (by simp)
      case c2 => intro u hu; simp at hu; rcases hu with rfl | rfl <;> rfl
      case c3 => unfold maxLen; omega
      case c4 => omega
      case c5 => simp; have := hgr.1; omega
      intro v' w3 hown3 hg3 _
      obtain ⟨g', cap, rfl, -, -⟩ := hown3.form (by omega)
      have hsr := hgr.1
      have hbr3 : Below w.heap.size w w3 := by
        refine grown_below ?_ hg3 ?_
        · go_grown
        · intro r e
          have := (hown'.out.lt r e).1
          omega
      have hgr3 : Gr B W1 w3 := by
        refine Gr.grown ?_ hg3 ?_
        · exact hgr.trans (.of_below (by go_grown))
        · intro r e
          exact (hown'.out.lt r e).1
      have E0 := bk_grown hg3 (bk_keep (by go_grown : Below wr.heap.size wr _) D0) (not_own hown'.out hsB)
      have hown4 : w3.ownsRow W1.heap.size 3 1 (.slice (some ⟨g', 0, none⟩) (2 * (k + 1)) cap) (2 * (k + 1)) ((flatP (P.take (k + 1))).flatMap Ic) := by
        rw [hfl.out]
        exact hown3
      have hown5 := Lib.hid hown4
      clear C0 D0 hown3 hg3 hown4 hown' hfl
      have C0 := bk1 E0
      have e2 : 2 * k + 2 = 2 * (k + 1) := by omega
      rw [e2]
      go_wp2
      go_roundw
      case rel =>
        exact ⟨k + 1, _, _, by omega, by go_num, ownsRow_setCell_below hown5.out (by dsimp only; omega) _, by go_grown, hgr3.trans (.set _ _ _ _), bk_here E0 _ rfl⟩
      case measure => simp [intOf]; omega
    · have hkn : k = m := by omega
      have hkI : ¬ (k : Int) < (m : Int) := by omega
      have hfn : (flatP P).length = 2 * k := by rw [flatP_len, hm'.out, hkn]
      have hown2 := hown'.out
      rw [List.take_of_length_le (by rw [hm'.out, hkn]; exact Nat.le_refl _), ← hfn] at hown2
      have hSo := Lib.hid (sortOwn_any W1.heap.size (.slice Av (2 * k) cv) (flatP P) wr (by omega) (by rw [← hfn]; exact hown2))
      have hnoB := Lib.hid (not_own hown2 hsB)
      have hrB := Lib.hid fun r e => (hown2.lt r e).1
      have hCo := Lib.hid fun W (h : W.ownsRow W1.heap.size 3 1 (.slice Av (2 * k) cv) (flatP P).length ((sortI (flatP P)).flatMap Ic)) => compactOwn_any W1.heap.size (.slice Av (2 * k) cv) (sortI (flatP P)) W (by rw [sortI_len]; omega) (by rw [sortI_len]; exact h)
      rw [hfn] at hCo
      rw [compact_flat hPi.out] at hCo
      have hnoB' : Hid (some B ≠ (Value.slice Av (2 * k) cv).ownBlock) := by have := hnoB.out; rw [hfn] at this; exact this
      have hrB' : Hid (∀ r, (Value.slice Av (2 * k) cv).ownBlock = some r → W1.heap.size ≤ r) := by have := hrB.out; rw [hfn] at this; exact this
      rw [hfn] at hSo
      have hil : (inI P n).length ≤ 8 := Nat.le_trans (inI_len P n) hn8
      obtain ⟨al, hal⟩ : ∃ al, inI P n = al := ⟨_, rfl⟩
      obtain ⟨q, hq⟩ : ∃ q, al.length = q := ⟨_, rfl⟩
      rw [hal] at hCo hil
      rw [hq] at hCo hil
      clear hown' hown2 hfn hnoB hrB
      obtain ⟨N2, hN2⟩ : ∃ N2, 2 * k = N2 := ⟨_, rfl⟩
      rw [hN2] at hCo hSo hnoB' hrB' C0 D0
      clear hN2 hlt
      obtain ⟨T, hT⟩ : ∃ T, 2 ^ q - 1 = T := ⟨_, rfl⟩
      obtain ⟨pf1, pf2, pf3, pf4, pf5⟩ := pow_facts q (List.mem_range.2 (by omega))
      have hpw : IntKind.u64.wrap (IntKind.u64.wrap (2 ^ q) - 1) = (T : Int) := by rw [pf1, pf2, hT]
      have hT' := Lib.hid hT
      have hT1 : Hid (((valV (List.replicate q true) : Nat) : Int) = (T : Int)) := by rw [← hT]; exact pf3
      have hT2 : T < 256 := by omega
      have hT3 : Hid (T + 1 = 2 ^ q) := by unfold Hid; omega
      clear hT pf1 pf2 pf3 pf4 pf5
      go_wp2_with (first | (go_at_call 26; refine hSo.out.mono ?_; rintro e w4 ⟨rfl, hown4, hg4⟩; have hbr4 := grown_below hbr hg4 (fun r e => by have := hrB'.out r e; omega); have hgr4 := Gr.grown hgr hg4 (fun r e => hrB'.out r e); have D4 := bk_grown hg4 D0 hnoB'.out; have C4 := bk1 D4) | (go_at_call 27; refine (hCo.out _ hown4).mono ?_; rintro e w5 ⟨⟨Aa, ca, rfl, hata, hfa⟩, hg5⟩; have hbr5 := grown_below hbr4 hg5 (fun r e => by have := hrB'.out r e; omega); have hgr5 := Gr.grown hgr4 hg5 (fun r e => hrB'.out r e); have D5 := bk_grown hg5 D4 hnoB'.out; have C5 := bk1 D5))
      refine wp_world ?_
      intro W6 hW_W6
      have hb_W6 : Below w.heap.size w W6 := by rw [hW_W6]; go_grown
      have hgr6 : Gr B w5 W6 := by
        rw [hW_W6]
        exact (Gr.set _ _ _ _).trans (.of_below (by go_grown))
      have hat6 := Lib.hid (hgr6.at hata (fun _ p e h => by have := hfa p e; omega))
      have hat36 := Lib.hid ((hgr5.trans hgr6).at hat3W.out hneB.out)
      obtain ⟨D, hD⟩ : ∃ D, w5.heap.size = D := ⟨_, rfl⟩
      have D6 : W6.heap[B]? = some (.cells #[.slice Aa q ca] 28 (0, 0)) := by rw [hW_W6]; exact bk_alloc (bk_alloc (bk_here D5 _ rfl) _) _
      have DD6 : W6.heap[D]? = some (.cells #[.func (.func 28) #[] #[.pointer (some ⟨B, 0, none⟩)]] 73 (0, 0)) := by rw [hW_W6]; exact bk_alloc (bk_new _ _ (by simp [hD])) _
      have DS6 : W6.heap[D + 1]? = some (.cells #[.int .u64 (T : Int)] 71 (0, 0)) := by rw [hW_W6]; exact bk_new _ _ (by simp [hD])
      rw [hD]
      have hb6 := Lib.hid hb_W6
      have hq' := Lib.hid hq
      have hal' := Lib.hid hal
      clear hW_W6 hD hb_W6 hgr6 hata hfa hgr5 hgr4 hgr hbr5 hbr4 hbr D5 D4 D0 C5 C4 C0 hg4 hg5 hown4 hSo hCo hnoB' hrB' hat3W hneB hP hO hq hal
      obtain ⟨ix, hix⟩ := inI_ix hPi.out
      have hup := inI_up P n
      rw [hal'.out] at hix hup
      have hCl := Lib.hid fun (v : List Bool) (S : Nat) (hv : v ∈ subs q) W (hb : Below W6.heap.size W6 W) (hS : W.heap[S]? = some (.cells #[.int .u64 (valV v)] 71 (0, 0))) =>
        show Calls Tryz.prog 30 #[.slice A3 m cap3, .func (.func 31) #[] #[.pointer (some ⟨S, 0, none⟩), .pointer (some ⟨D, 0, none⟩)]] W fun e w' => e = .returned (.bool (!(covV P n v))) ∧ Below W.heap.size W w' from by
          have h := containsFunc_any A3 P cap3 S D (fun p => gotV v (ix p.1) (ix p.2)) W (by rw [hm'.out]; omega) (hat36.out.below hb) (fun p hp U hU =>
            cl_any S D B ca Aa al v (ix p.1) (ix p.2) p.1 p.2 U (by rw [hq'.out]; exact hil) hup (by rw [hq'.out]; exact hv) (hix p hp).1 (hix p hp).2 (hat6.out.below (via hb hU)) (by rw [hq'.out]; exact bk_keep (via hb hU) D6) (bk_keep hU hS) (bk_keep (via hb hU) DD6))
          rw [missed_eq hPi.out v ix (by rw [hal'.out]; exact hix), hm'.out] at h
          exact h
      have hBit := Lib.hid fun (j : Nat) (x : Int) (hj : al[j]? = some x) W (hb : Below W6.heap.size W6 W) =>
        show Calls Tryz.prog 28 #[.int .i64 x, .pointer (some ⟨B, 0, none⟩)] W fun e w' => e = .returned (.int .u64 ((2 ^ (q - 1 - j) : Nat) : Int)) ∧ Below W.heap.size W w' from by
          have h := bit_any B ca Aa al j x W (by rw [hq'.out]; exact hil) hup hj (hat6.out.below hb) (by rw [hq'.out]; exact bk_keep hb D6)
          rwa [hq'.out] at h
      clear hix hup
      obtain ⟨C, hC⟩ : ∃ C, covV P n = C := ⟨_, rfl⟩
      have hBL : Hid (bestL P n = bestV C q) := by unfold Hid bestL; rw [hC, hal'.out, hq'.out]
      have hBM := Lib.hid (bestTo_mem C q)
      have hBS := Lib.hid fun t v h => bestTo_succ (C := C) (k := q) (t := t) (v := v) h
      have hBA : Hid (bestTo C q (T + 1) = bestL P n) := by
        unfold Hid
        rw [hBL.out, hT3.out]
        exact bestTo_all C q (by rw [subs_length]; exact Nat.le_refl _)
      rw [hC] at hCl
      go_loopw [11, 12] (fun b p wr => ∃ s S : Nat, s ≤ T ∧ b = .int .u64 (valV (bestTo C q (T - s))) ∧ p = .pointer (some ⟨S, 0, none⟩) ∧ wr.heap[S]? = some (.cells #[.int .u64 (s : Int)] 71 (0, 0)) ∧ Below W6.heap.size W6 wr) (fun _ p wr => setOfP p wr)
      case atStart => exact ⟨T, D + 1, Nat.le_refl _, by rw [Nat.sub_self]; show Value.int .u64 _ = Value.int .u64 ((valV (List.replicate q true) : Nat) : Int); rw [hT1.out], rfl, DS6, Below.refl _ _⟩
      case round =>
        obtain ⟨s, S, hsT, rfl, rfl, DS, hbr⟩ := hrel
        have hsv := setOf_val q (List.mem_range.2 (by omega)) s (List.mem_range.2 (by have := hT3.out; omega))
        obtain ⟨v, hv⟩ : ∃ v, setOf q s = v := ⟨_, rfl⟩
        rw [hv] at hsv
        obtain ⟨hv1, hv2⟩ := hsv
        rw [hT'.out] at hv2
        have hvm : v ∈ subs q := List.mem_of_getElem? hv2
        have hCs := hCl.out v S hvm wr hbr (by rw [hv1]; exact DS)
        obtain ⟨bs, hbs⟩ : ∃ bs, bestTo C q (T - s) = bs := ⟨_, rfl⟩
        have hbm := hBM.out (T - s)
        have hnx := hBS.out (T - s) v hv2
        rw [hbs] at hbm hnx ⊢
        have p1 := val_ones q (List.mem_range.2 (by omega)) v hvm
        have p2 := val_ones q (List.mem_range.2 (by omega)) bs hbm
        have p3 := val_lt q (List.mem_range.2 (by omega)) bs hbm
        rw [hv1] at p1
        have hnx' := Lib.hid hnx
        unfold better at hnx
        rw [← p1, ← p2] at hnx
        obtain ⟨bv, hbv⟩ : ∃ bv, valV bs = bv := ⟨_, rfl⟩
        rw [hbv] at hnx p3 ⊢
        have hs256 : s < 256 := by omega
        have hb256 : bv < 256 := by have := hT3.out; omega
        have hO1 := Lib.hid fun W => ones_any s hs256 W
        have hO2 := Lib.hid fun W => ones_any bv hb256 W
        obtain ⟨N1, hN1⟩ : ∃ N, pcn 8 s = N := ⟨_, rfl⟩
        obtain ⟨N2', hN2'⟩ : ∃ N, pcn 8 bv = N := ⟨_, rfl⟩
        rw [hN1, hN2'] at hnx
        rw [hN1] at hO1
        rw [hN2'] at hO2
        obtain ⟨cq, hcq⟩ : ∃ cq, C v = cq := ⟨_, rfl⟩
        rw [hcq] at hnx hCs
        have hCs' := Lib.hid hCs
        have hv1' := Lib.hid hv1
        have hbv' := Lib.hid hbv
        have hme := Lib.hid (setOfP_at DS)
        have C3 := bk1 DS
        have CD := bk1 (bk_keep hbr DD6)
        have CB := bk1 (bk_keep hbr D6)
        clear hv hv1 hv2 hvm hbs hbm p1 p2 p3 hN1 hN2' hcq hCs hbv hnx'
        cases cq with
        | false =>
          simp only [Bool.false_and, Bool.false_eq_true, if_false] at hnx
          by_cases hs0 : s = 0
          · have h0 : ((s : Int) == 0) = true := by simp [hs0]
            have hTs : T - s + 1 = T + 1 := by omega
            rw [hTs, hBA.out] at hnx
            have hnx2 := Lib.hid hnx
            clear hs0 hTs hnx
            go_wp2_with (first | (go_at_call 30; refine hCs'.out.mono ?_; rintro e w7 ⟨rfl, hb⟩; (replace hbr := via hbr hb; replace DS := bk_keep hb DS; replace C3 := bk1 DS; replace CD := bk1 (bk_keep hbr DD6); replace CB := bk1 (bk_keep hbr D6))) | (go_at_call 32; first | (refine Calls.mono (by with_reducible exact hO1.out _) ?_; rintro e w' ⟨rfl, rfl⟩) | (refine Calls.mono (by with_reducible exact hO2.out _) ?_; rintro e w' ⟨rfl, rfl⟩)))
            have hbest : Hid (valV (bestL P n) = bv) := by unfold Hid; first | rw [hnx2.out, hbv'.out] | rw [hnx2.out, hv1'.out]
            have hbm : bestL P n ∈ subs q := by rw [← hBA.out]; exact hBM.out _
            obtain ⟨bl, hbl⟩ : ∃ bl, bestL P n = bl := ⟨_, rfl⟩
            have hsel : Hid (blamedL P n = sel al bl) := by unfold Hid blamedL; rw [hbl, hal'.out]
            rw [hbl] at hbest hbm
            have hbit0 := Lib.hid fun (j : Nat) (hj : j < q) => val_bit q (List.mem_range.2 (by omega)) bl hbm j (List.mem_range.2 hj)
            rw [hbest.out] at hbit0
            have hatw := Lib.hid (hat6.out.below hbr)
            have hbr' := Lib.hid hbr
            have hwW := hb6.out.size
            obtain ⟨Wt, hWt⟩ : ∃ W : World, W = w7 := ⟨_, rfl⟩
            rw [← hWt] at hbr hatw hbr' C3 CD CB ⊢
            clear hWt hbl hbm hbest hCl hBL hBM hBS hBA hCs' hnx2 hv1' hbv' hme DS hO1 hO2
            go_loopw [14, 74] (fun o i wr => ∃ (j : Nat) (Av : Option Addr) (cv : Nat), j ≤ q ∧ i = .int .i64 j ∧ o = .slice Av (sel (al.take j) bl).length cv ∧ wr.ownsRow Wt.heap.size 3 1 (.slice Av (sel (al.take j) bl).length cv) (sel (al.take j) bl).length ((sel (al.take j) bl).flatMap Ic) ∧ Below Wt.heap.size Wt wr) (fun _ i _ => q - (intOf i).toNat)
            case atStart => exact ⟨0, none, 0, Nat.zero_le _, rfl, rfl, World.ownsRow_nil _ _ _ _, Below.refl _ _⟩
            case round =>
              obtain ⟨j, Av, cv, hj, rfl, rfl, hown, hbt⟩ := hrel
              have hbr := via hbr'.out hbt
              have CD := bk1 (bk_keep hbr DD6)
              have CB := bk1 (bk_keep hbr D6)
              have hown' := Lib.hid hown
              clear hown
              by_cases hlt : j < q
              · obtain ⟨x, hx⟩ : ∃ x, al[j]? = some x := ⟨_, List.getElem?_eq_getElem (by rw [hq'.out]; exact hlt)⟩
                obtain ⟨b, o, rfl, hbl, hc⟩ := (hatw.out.below hbt) j x hx
                have c0 := hc 0 _ rfl
                simp only [Nat.add_zero, Nat.mul_one] at c0
                have hBx := Lib.hid fun W hb => hBit.out j x hx W hb
                have hst := Lib.hid (sel_take (v := bl) hx)
                have hb0 := hbit0.out j hlt
                have hsl : (sel (al.take j) bl).length ≤ 8 := by
                  have h1 := (sel_sub (al.take j) bl).length_le
                  rw [List.length_take] at h1
                  omega
                have hjI : (j : Int) < (q : Int) := by omega
                obtain ⟨nn, hnn⟩ : ∃ nn : Nat, 2 ^ (q - 1 - j) = nn := ⟨_, rfl⟩
                rw [hnn] at hb0 hBx
                have hsl' := Lib.hid hsl
                obtain ⟨zz, hzz⟩ : ∃ zz, sel (al.take j) bl = zz := ⟨_, rfl⟩
                rw [hzz] at hst hsl hown' ⊢
                obtain ⟨M, hM⟩ : ∃ M, zz.length = M := ⟨_, rfl⟩
                rw [hM] at hsl hown' ⊢
                have hM' := Lib.hid hM
                clear hc hx hnn hzz hM hsl'
                cases hg : bl.getD j false with
                | false =>
                  rw [hg] at hst hb0
                  have hb1 : (bits .and .u64 (bv : Int) (nn : Int) != 0) = false := by rw [bne, hb0]; rfl
                  have hst' : Hid (sel (al.take (j + 1)) bl = zz) := by unfold Hid; rw [hst.out]; simp
                  clear hst hg hb0
                  go_wp2_with (first | (go_at_call 28; refine (hBx.out _ hbr).mono ?_; rintro e w8 ⟨rfl, hb8⟩; have hbt8 := via hbt hb8; have hown8 := Lib.hid (owns_below hown'.out hb8); replace CB := bk1 (bk_keep (via hbr hb8) D6)))
                  go_roundw
                  case rel => exact ⟨j + 1, Av, cv, by omega, by go_num, by rw [hst'.out, hM'.out], by rw [hst'.out, hM'.out]; exact hown8.out, hbt8⟩
                  case measure => simp [intOf]; omega
                | true =>
                  rw [hg] at hst hb0
                  have hb1 : (bits .and .u64 (bv : Int) (nn : Int) != 0) = true := by rw [bne, hb0]; rfl
                  have hst' : Hid (sel (al.take (j + 1)) bl = zz ++ [x]) := by unfold Hid; rw [hst.out]; simp
                  clear hst hg hb0
                  go_wp2_with (first
                    | (at_builtin; refine wpList_append_own _ rfl _ _ 28 rfl Wt.heap.size 3 i0 z0 1 8 Tryz.underlying28 hi hz0 hz1 hz2 hzs (by decide) _ _ _ rfl (owns_below hown8.out (by go_grown)) ⟨w8.heap.size, 0, none⟩ 1 1 [.int .i64 x] rfl rfl ?c1 ?c2 ?c3 ?c4 ?c5 ?_)
                    | (go_at_call 28; refine (hBx.out _ hbr).mono ?_; rintro e w8 ⟨rfl, hb8⟩; have hbt8 := via hbt hb8; have hown8 := Lib.hid (owns_below hown'.out hb8); replace CB := bk1 (bk_keep (via hbr hb8) D6)))
                  case c1 => exact cells_new' _ [.int .i64 x] _ (by simp)
                  case c2 => intro u hu; simp at hu; subst hu; rfl
                  case c3 => unfold maxLen; omega
                  case c4 => omega
                  case c5 => simp; have := hbt8.size; omega
                  intro v' w9 hown9 hg9 _
                  obtain ⟨g', cap, rfl, -, -⟩ := hown9.form (by omega)
                  have hbt9 : Below Wt.heap.size Wt w9 := by
                    refine grown_below ?_ hg9 (fun r e => (hown8.out.lt r e).1)
                    exact via_alloc hbt8 _
                  have hown10 : Hid (w9.ownsRow Wt.heap.size 3 1 (.slice (some ⟨g', 0, none⟩) (M + 1) cap) (M + 1) ((zz ++ [x]).flatMap Ic)) := by
                    unfold Hid
                    rw [List.flatMap_append]
                    exact hown9
                  clear hown9 hg9
                  go_wp2
                  go_roundw
                  case rel => exact ⟨j + 1, _, _, by omega, by go_num, by rw [hst'.out, List.length_append, hM'.out]; rfl, by rw [hst'.out, List.length_append, hM'.out]; exact hown10.out, hbt9⟩
                  case measure => simp [intOf]; omega
              · have hjq : j = q := by omega
                have hjI : ¬ (j : Int) < (q : Int) := by omega
                have hown2 := hown'.out
                have hall : sel (al.take j) bl = blamedL P n := by rw [List.take_of_length_le (by rw [hq'.out, hjq]; exact Nat.le_refl _), hsel.out]
                rw [hall] at hown2 ⊢
                obtain ⟨A3', c3', e3, hat3⟩ := at_of_owns (cs := Ic) (sz := 1) (fun _ => rfl) hown2
                injection e3 with e31 _ e33
                subst e31 e33
                have hat3' := Lib.hid hat3
                have hbF := via hb6.out hbr
                clear hat3 hown2 hown' hall hjq
                go_wp2
                refine bodyPost_ret (v := .tuple #[.slice Av (blamedL P n).length cv, .int .i64 0]) ?_ rfl ⟨⟨Av, ⟨cv, rfl⟩, hat3'.out⟩, hbF⟩
                simp [results, Tryz.results6, go_sem]
          · have h0 : ((s : Int) == 0) = false := by simp [hs0]
            have hTs : T - s + 1 = T - (s - 1) := by omega
            rw [hTs] at hnx
            have hnx2 := Lib.hid hnx
            have hsw : IntKind.u64.wrap ((s : Int) - 1) = ((s - 1 : Nat) : Int) := by
              have := hsT
              rw [IntWalk.u64_in _ (by omega)]; omega
            have hs1 : 0 < s := by omega
            clear hs0 hTs hnx
            go_wp2_with (first | (go_at_call 30; refine hCs'.out.mono ?_; rintro e w7 ⟨rfl, hb⟩; (replace hbr := via hbr hb; replace DS := bk_keep hb DS; replace C3 := bk1 DS; replace CD := bk1 (bk_keep hbr DD6); replace CB := bk1 (bk_keep hbr D6))) | (go_at_call 32; first | (refine Calls.mono (by with_reducible exact hO1.out _) ?_; rintro e w' ⟨rfl, rfl⟩) | (refine Calls.mono (by with_reducible exact hO2.out _) ?_; rintro e w' ⟨rfl, rfl⟩)))
            go_roundw
            case rel => exact ⟨s - 1, _, by omega, by first | rw [hnx2.out, hbv'.out] | rw [hnx2.out, hv1'.out], rfl, bk_new _ _ rfl, via_alloc hbr _⟩
            case measure => rw [hme.out, setOfP_at (s := s - 1) (bk_new _ _ rfl)]; omega
        | true =>
          simp only [Bool.true_and, decide_eq_true_eq] at hnx
          by_cases hlt2 : N1 < N2'
          · rw [if_pos hlt2] at hnx
            by_cases hs0 : s = 0
            · have h0 : ((s : Int) == 0) = true := by simp [hs0]
              have hTs : T - s + 1 = T + 1 := by omega
              rw [hTs, hBA.out] at hnx
              have hnx2 := Lib.hid hnx
              clear hs0 hTs hnx
              go_wp2_with (first | (go_at_call 30; refine hCs'.out.mono ?_; rintro e w7 ⟨rfl, hb⟩; (replace hbr := via hbr hb; replace DS := bk_keep hb DS; replace C3 := bk1 DS; replace CD := bk1 (bk_keep hbr DD6); replace CB := bk1 (bk_keep hbr D6))) | (go_at_call 32; first | (refine Calls.mono (by with_reducible exact hO1.out _) ?_; rintro e w' ⟨rfl, rfl⟩) | (refine Calls.mono (by with_reducible exact hO2.out _) ?_; rintro e w' ⟨rfl, rfl⟩)))
              have hbest : Hid (valV (bestL P n) = s) := by unfold Hid; first | rw [hnx2.out, hbv'.out] | rw [hnx2.out, hv1'.out]
              have hbm : bestL P n ∈ subs q := by rw [← hBA.out]; exact hBM.out _
              obtain ⟨bl, hbl⟩ : ∃ bl, bestL P n = bl := ⟨_, rfl⟩
              have hsel : Hid (blamedL P n = sel al bl) := by unfold Hid blamedL; rw [hbl, hal'.out]
              rw [hbl] at hbest hbm
              have hbit0 := Lib.hid fun (j : Nat) (hj : j < q) => val_bit q (List.mem_range.2 (by omega)) bl hbm j (List.mem_range.2 hj)
              rw [hbest.out] at hbit0
              have hatw := Lib.hid (hat6.out.below hbr)
              have hbr' := Lib.hid hbr
              have hwW := hb6.out.size
              obtain ⟨Wt, hWt⟩ : ∃ W : World, W = w7 := ⟨_, rfl⟩
              rw [← hWt] at hbr hatw hbr' C3 CD CB ⊢
              clear hWt hbl hbm hbest hCl hBL hBM hBS hBA hCs' hnx2 hv1' hbv' hme DS hO1 hO2
              go_loopw [14, 74] (fun o i wr => ∃ (j : Nat) (Av : Option Addr) (cv : Nat), j ≤ q ∧ i = .int .i64 j ∧ o = .slice Av (sel (al.take j) bl).length cv ∧ wr.ownsRow Wt.heap.size 3 1 (.slice Av (sel (al.take j) bl).length cv) (sel (al.take j) bl).length ((sel (al.take j) bl).flatMap Ic) ∧ Below Wt.heap.size Wt wr) (fun _ i _ => q - (intOf i).toNat)
              case atStart => exact ⟨0, none, 0, Nat.zero_le _, rfl, rfl, World.ownsRow_nil _ _ _ _, Below.refl _ _⟩
              case round =>
                obtain ⟨j, Av, cv, hj, rfl, rfl, hown, hbt⟩ := hrel
                have hbr := via hbr'.out hbt
                have CD := bk1 (bk_keep hbr DD6)
                have CB := bk1 (bk_keep hbr D6)
                have hown' := Lib.hid hown
                clear hown
                by_cases hlt : j < q
                · obtain ⟨x, hx⟩ : ∃ x, al[j]? = some x := ⟨_, List.getElem?_eq_getElem (by rw [hq'.out]; exact hlt)⟩
                  obtain ⟨b, o, rfl, hbl, hc⟩ := (hatw.out.below hbt) j x hx
                  have c0 := hc 0 _ rfl
                  simp only [Nat.add_zero, Nat.mul_one] at c0
                  have hBx := Lib.hid fun W hb => hBit.out j x hx W hb
                  have hst := Lib.hid (sel_take (v := bl) hx)
                  have hb0 := hbit0.out j hlt
                  have hsl : (sel (al.take j) bl).length ≤ 8 := by
                    have h1 := (sel_sub (al.take j) bl).length_le
                    rw [List.length_take] at h1
                    omega
                  have hjI : (j : Int) < (q : Int) := by omega
                  obtain ⟨nn, hnn⟩ : ∃ nn : Nat, 2 ^ (q - 1 - j) = nn := ⟨_, rfl⟩
                  rw [hnn] at hb0 hBx
                  have hsl' := Lib.hid hsl
                  obtain ⟨zz, hzz⟩ : ∃ zz, sel (al.take j) bl = zz := ⟨_, rfl⟩
                  rw [hzz] at hst hsl hown' ⊢
                  obtain ⟨M, hM⟩ : ∃ M, zz.length = M := ⟨_, rfl⟩
                  rw [hM] at hsl hown' ⊢
                  have hM' := Lib.hid hM
                  clear hc hx hnn hzz hM hsl'
                  cases hg : bl.getD j false with
                  | false =>
                    rw [hg] at hst hb0
                    have hb1 : (bits .and .u64 (s : Int) (nn : Int) != 0) = false := by rw [bne, hb0]; rfl
                    have hst' : Hid (sel (al.take (j + 1)) bl = zz) := by unfold Hid; rw [hst.out]; simp
                    clear hst hg hb0
                    go_wp2_with (first | (go_at_call 28; refine (hBx.out _ hbr).mono ?_; rintro e w8 ⟨rfl, hb8⟩; have hbt8 := via hbt hb8; have hown8 := Lib.hid (owns_below hown'.out hb8); replace CB := bk1 (bk_keep (via hbr hb8) D6)))
                    go_roundw
                    case rel => exact ⟨j + 1, Av, cv, by omega, by go_num, by rw [hst'.out, hM'.out], by rw [hst'.out, hM'.out]; exact hown8.out, hbt8⟩
                    case measure => simp [intOf]; omega
                  | true =>
                    rw [hg] at hst hb0
                    have hb1 : (bits .and .u64 (s : Int) (nn : Int) != 0) = true := by rw [bne, hb0]; rfl
                    have hst' : Hid (sel (al.take (j + 1)) bl = zz ++ [x]) := by unfold Hid; rw [hst.out]; simp
                    clear hst hg hb0
                    go_wp2_with (first
                      | (at_builtin; refine wpList_append_own _ rfl _ _ 28 rfl Wt.heap.size 3 i0 z0 1 8 Tryz.underlying28 hi hz0 hz1 hz2 hzs (by decide) _ _ _ rfl (owns_below hown8.out (by go_grown)) ⟨w8.heap.size, 0, none⟩ 1 1 [.int .i64 x] rfl rfl ?c1 ?c2 ?c3 ?c4 ?c5 ?_)
                      | (go_at_call 28; refine (hBx.out _ hbr).mono ?_; rintro e w8 ⟨rfl, hb8⟩; have hbt8 := via hbt hb8; have hown8 := Lib.hid (owns_below hown'.out hb8); replace CB := bk1 (bk_keep (via hbr hb8) D6)))
                    case c1 => exact cells_new' _ [.int .i64 x] _ (by simp)
                    case c2 => intro u hu; simp at hu; subst hu; rfl
                    case c3 => unfold maxLen; omega
                    case c4 => omega
                    case c5 => simp; have := hbt8.size; omega
                    intro v' w9 hown9 hg9 _
                    obtain ⟨g', cap, rfl, -, -⟩ := hown9.form (by omega)
                    have hbt9 : Below Wt.heap.size Wt w9 := by
                      refine grown_below ?_ hg9 (fun r e => (hown8.out.lt r e).1)
                      exact via_alloc hbt8 _
                    have hown10 : Hid (w9.ownsRow Wt.heap.size 3 1 (.slice (some ⟨g', 0, none⟩) (M + 1) cap) (M + 1) ((zz ++ [x]).flatMap Ic)) := by
                      unfold Hid
                      rw [List.flatMap_append]
                      exact hown9
                    clear hown9 hg9
                    go_wp2
                    go_roundw
                    case rel => exact ⟨j + 1, _, _, by omega, by go_num, by rw [hst'.out, List.length_append, hM'.out]; rfl, by rw [hst'.out, List.length_append, hM'.out]; exact hown10.out, hbt9⟩
                    case measure => simp [intOf]; omega
                · have hjq : j = q := by omega
                  have hjI : ¬ (j : Int) < (q : Int) := by omega
                  have hown2 := hown'.out
                  have hall : sel (al.take j) bl = blamedL P n := by rw [List.take_of_length_le (by rw [hq'.out, hjq]; exact Nat.le_refl _), hsel.out]
                  rw [hall] at hown2 ⊢
                  obtain ⟨A3', c3', e3, hat3⟩ := at_of_owns (cs := Ic) (sz := 1) (fun _ => rfl) hown2
                  injection e3 with e31 _ e33
                  subst e31 e33
                  have hat3' := Lib.hid hat3
                  have hbF := via hb6.out hbr
                  clear hat3 hown2 hown' hall hjq
                  go_wp2
                  refine bodyPost_ret (v := .tuple #[.slice Av (blamedL P n).length cv, .int .i64 0]) ?_ rfl ⟨⟨Av, ⟨cv, rfl⟩, hat3'.out⟩, hbF⟩
                  simp [results, Tryz.results6, go_sem]
            · have h0 : ((s : Int) == 0) = false := by simp [hs0]
              have hTs : T - s + 1 = T - (s - 1) := by omega
              rw [hTs] at hnx
              have hnx2 := Lib.hid hnx
              have hsw : IntKind.u64.wrap ((s : Int) - 1) = ((s - 1 : Nat) : Int) := by
                have := hsT
                rw [IntWalk.u64_in _ (by omega)]; omega
              have hs1 : 0 < s := by omega
              clear hs0 hTs hnx
              go_wp2_with (first | (go_at_call 30; refine hCs'.out.mono ?_; rintro e w7 ⟨rfl, hb⟩; (replace hbr := via hbr hb; replace DS := bk_keep hb DS; replace C3 := bk1 DS; replace CD := bk1 (bk_keep hbr DD6); replace CB := bk1 (bk_keep hbr D6))) | (go_at_call 32; first | (refine Calls.mono (by with_reducible exact hO1.out _) ?_; rintro e w' ⟨rfl, rfl⟩) | (refine Calls.mono (by with_reducible exact hO2.out _) ?_; rintro e w' ⟨rfl, rfl⟩)))
              go_roundw
              case rel => exact ⟨s - 1, _, by omega, by first | rw [hnx2.out, hbv'.out] | rw [hnx2.out, hv1'.out], rfl, bk_new _ _ rfl, via_alloc hbr _⟩
              case measure => rw [hme.out, setOfP_at (s := s - 1) (bk_new _ _ rfl)]; omega
          · rw [if_neg hlt2] at hnx
            by_cases hs0 : s = 0
            · have h0 : ((s : Int) == 0) = true := by simp [hs0]
              have hTs : T - s + 1 = T + 1 := by omega
              rw [hTs, hBA.out] at hnx
              have hnx2 := Lib.hid hnx
              clear hs0 hTs hnx
              go_wp2_with (first | (go_at_call 30; refine hCs'.out.mono ?_; rintro e w7 ⟨rfl, hb⟩; (replace hbr := via hbr hb; replace DS := bk_keep hb DS; replace C3 := bk1 DS; replace CD := bk1 (bk_keep hbr DD6); replace CB := bk1 (bk_keep hbr D6))) | (go_at_call 32; first | (refine Calls.mono (by with_reducible exact hO1.out _) ?_; rintro e w' ⟨rfl, rfl⟩) | (refine Calls.mono (by with_reducible exact hO2.out _) ?_; rintro e w' ⟨rfl, rfl⟩)))
              have hbest : Hid (valV (bestL P n) = bv) := by unfold Hid; first | rw [hnx2.out, hbv'.out] | rw [hnx2.out, hv1'.out]
              have hbm : bestL P n ∈ subs q := by rw [← hBA.out]; exact hBM.out _
              obtain ⟨bl, hbl⟩ : ∃ bl, bestL P n = bl := ⟨_, rfl⟩
              have hsel : Hid (blamedL P n = sel al bl) := by unfold Hid blamedL; rw [hbl, hal'.out]
              rw [hbl] at hbest hbm
              have hbit0 := Lib.hid fun (j : Nat) (hj : j < q) => val_bit q (List.mem_range.2 (by omega)) bl hbm j (List.mem_range.2 hj)
              rw [hbest.out] at hbit0
              have hatw := Lib.hid (hat6.out.below hbr)
              have hbr' := Lib.hid hbr
              have hwW := hb6.out.size
              obtain ⟨Wt, hWt⟩ : ∃ W : World, W = w7 := ⟨_, rfl⟩
              rw [← hWt] at hbr hatw hbr' C3 CD CB ⊢
              clear hWt hbl hbm hbest hCl hBL hBM hBS hBA hCs' hnx2 hv1' hbv' hme DS hO1 hO2
              go_loopw [14, 74] (fun o i wr => ∃ (j : Nat) (Av : Option Addr) (cv : Nat), j ≤ q ∧ i = .int .i64 j ∧ o = .slice Av (sel (al.take j) bl).length cv ∧ wr.ownsRow Wt.heap.size 3 1 (.slice Av (sel (al.take j) bl).length cv) (sel (al.take j) bl).length ((sel (al.take j) bl).flatMap Ic) ∧ Below Wt.heap.size Wt wr) (fun _ i _ => q - (intOf i).toNat)
              case atStart => exact ⟨0, none, 0, Nat.zero_le _, rfl, rfl, World.ownsRow_nil _ _ _ _, Below.refl _ _⟩
              case round =>
                obtain ⟨j, Av, cv, hj, rfl, rfl, hown, hbt⟩ := hrel
                have hbr := via hbr'.out hbt
                have CD := bk1 (bk_keep hbr DD6)
                have CB := bk1 (bk_keep hbr D6)
                have hown' := Lib.hid hown
                clear hown
                by_cases hlt : j < q
                · obtain ⟨x, hx⟩ : ∃ x, al[j]? = some x := ⟨_, List.getElem?_eq_getElem (by rw [hq'.out]; exact hlt)⟩
                  obtain ⟨b, o, rfl, hbl, hc⟩ := (hatw.out.below hbt) j x hx
                  have c0 := hc 0 _ rfl
                  simp only [Nat.add_zero, Nat.mul_one] at c0
                  have hBx := Lib.hid fun W hb => hBit.out j x hx W hb
                  have hst := Lib.hid (sel_take (v := bl) hx)
                  have hb0 := hbit0.out j hlt
                  have hsl : (sel (al.take j) bl).length ≤ 8 := by
                    have h1 := (sel_sub (al.take j) bl).length_le
                    rw [List.length_take] at h1
                    omega
                  have hjI : (j : Int) < (q : Int) := by omega
                  obtain ⟨nn, hnn⟩ : ∃ nn : Nat, 2 ^ (q - 1 - j) = nn := ⟨_, rfl⟩
                  rw [hnn] at hb0 hBx
                  have hsl' := Lib.hid hsl
                  obtain ⟨zz, hzz⟩ : ∃ zz, sel (al.take j) bl = zz := ⟨_, rfl⟩
                  rw [hzz] at hst hsl hown' ⊢
                  obtain ⟨M, hM⟩ : ∃ M, zz.length = M := ⟨_, rfl⟩
                  rw [hM] at hsl hown' ⊢
                  have hM' := Lib.hid hM
                  clear hc hx hnn hzz hM hsl'
                  cases hg : bl.getD j false with
                  | false =>
                    rw [hg] at hst hb0
                    have hb1 : (bits .and .u64 (bv : Int) (nn : Int) != 0) = false := by rw [bne, hb0]; rfl
                    have hst' : Hid (sel (al.take (j + 1)) bl = zz) := by unfold Hid; rw [hst.out]; simp
                    clear hst hg hb0
                    go_wp2_with (first | (go_at_call 28; refine (hBx.out _ hbr).mono ?_; rintro e w8 ⟨rfl, hb8⟩; have hbt8 := via hbt hb8; have hown8 := Lib.hid (owns_below hown'.out hb8); replace CB := bk1 (bk_keep (via hbr hb8) D6)))
                    go_roundw
                    case rel => exact ⟨j + 1, Av, cv, by omega, by go_num, by rw [hst'.out, hM'.out], by rw [hst'.out, hM'.out]; exact hown8.out, hbt8⟩
                    case measure => simp [intOf]; omega
                  | true =>
                    rw [hg] at hst hb0
                    have hb1 : (bits .and .u64 (bv : Int) (nn : Int) != 0) = true := by rw [bne, hb0]; rfl
                    have hst' : Hid (sel (al.take (j + 1)) bl = zz ++ [x]) := by unfold Hid; rw [hst.out]; simp
                    clear hst hg hb0
                    go_wp2_with (first
                      | (at_builtin; refine wpList_append_own _ rfl _ _ 28 rfl Wt.heap.size 3 i0 z0 1 8 Tryz.underlying28 hi hz0 hz1 hz2 hzs (by decide) _ _ _ rfl (owns_below hown8.out (by go_grown)) ⟨w8.heap.size, 0, none⟩ 1 1 [.int .i64 x] rfl rfl ?c1 ?c2 ?c3 ?c4 ?c5 ?_)
                      | (go_at_call 28; refine (hBx.out _ hbr).mono ?_; rintro e w8 ⟨rfl, hb8⟩; have hbt8 := via hbt hb8; have hown8 := Lib.hid (owns_below hown'.out hb8); replace CB := bk1 (bk_keep (via hbr hb8) D6)))
                    case c1 => exact cells_new' _ [.int .i64 x] _ (by simp)
                    case c2 => intro u hu; simp at hu; subst hu; rfl
                    case c3 => unfold maxLen; omega
                    case c4 => omega
                    case c5 => simp; have := hbt8.size; omega
                    intro v' w9 hown9 hg9 _
                    obtain ⟨g', cap, rfl, -, -⟩ := hown9.form (by omega)
                    have hbt9 : Below Wt.heap.size Wt w9 := by
                      refine grown_below ?_ hg9 (fun r e => (hown8.out.lt r e).1)
                      exact via_alloc hbt8 _
                    have hown10 : Hid (w9.ownsRow Wt.heap.size 3 1 (.slice (some ⟨g', 0, none⟩) (M + 1) cap) (M + 1) ((zz ++ [x]).flatMap Ic)) := by
                      unfold Hid
                      rw [List.flatMap_append]
                      exact hown9
                    clear hown9 hg9
                    go_wp2
                    go_roundw
                    case rel => exact ⟨j + 1, _, _, by omega, by go_num, by rw [hst'.out, List.length_append, hM'.out]; rfl, by rw [hst'.out, List.length_append, hM'.out]; exact hown10.out, hbt9⟩
                    case measure => simp [intOf]; omega
                · have hjq : j = q := by omega
                  have hjI : ¬ (j : Int) < (q : Int) := by omega
                  have hown2 := hown'.out
                  have hall : sel (al.take j) bl = blamedL P n := by rw [List.take_of_length_le (by rw [hq'.out, hjq]; exact Nat.le_refl _), hsel.out]
                  rw [hall] at hown2 ⊢
                  obtain ⟨A3', c3', e3, hat3⟩ := at_of_owns (cs := Ic) (sz := 1) (fun _ => rfl) hown2
                  injection e3 with e31 _ e33
                  subst e31 e33
                  have hat3' := Lib.hid hat3
                  have hbF := via hb6.out hbr
                  clear hat3 hown2 hown' hall hjq
                  go_wp2
                  refine bodyPost_ret (v := .tuple #[.slice Av (blamedL P n).length cv, .int .i64 0]) ?_ rfl ⟨⟨Av, ⟨cv, rfl⟩, hat3'.out⟩, hbF⟩
                  simp [results, Tryz.results6, go_sem]
            · have h0 : ((s : Int) == 0) = false := by simp [hs0]
              have hTs : T - s + 1 = T - (s - 1) := by omega
              rw [hTs] at hnx
              have hnx2 := Lib.hid hnx
              have hsw : IntKind.u64.wrap ((s : Int) - 1) = ((s - 1 : Nat) : Int) := by
                have := hsT
                rw [IntWalk.u64_in _ (by omega)]; omega
              have hs1 : 0 < s := by omega
              clear hs0 hTs hnx
              go_wp2_with (first | (go_at_call 30; refine hCs'.out.mono ?_; rintro e w7 ⟨rfl, hb⟩; (replace hbr := via hbr hb; replace DS := bk_keep hb DS; replace C3 := bk1 DS; replace CD := bk1 (bk_keep hbr DD6); replace CB := bk1 (bk_keep hbr D6))) | (go_at_call 32; first | (refine Calls.mono (by with_reducible exact hO1.out _) ?_; rintro e w' ⟨rfl, rfl⟩) | (refine Calls.mono (by with_reducible exact hO2.out _) ?_; rintro e w' ⟨rfl, rfl⟩)))
              go_roundw
              case rel => exact ⟨s - 1, _, by omega, by first | rw [hnx2.out, hbv'.out] | rw [hnx2.out, hv1'.out], rfl, bk_new _ _ rfl, via_alloc hbr _⟩
              case measure => rw [hme.out, setOfP_at (s := s - 1) (bk_new _ _ rfl)]; omega
end Go.Proofs

set_option linter.unusedSimpArgs false
set_option linter.unusedVariables false
namespace Go.Proofs
open Go.RowKit

def tch (k : Nat) (p : Nat × Nat) : Bool := p.1 == k || p.2 == k
/-- What the reference has gathered: of the gaugings below k, and of k itself if one of the first j pairs has it. -/
def inP (P : List (Nat × Nat)) (k j : Nat) : List Int := inI P k ++ (if (P.take j).any (tch k) then [(k : Int)] else [])
theorem inP_zero (P : List (Nat × Nat)) (k : Nat) : inP P k 0 = inI P k := by simp [inP]
theorem inP_all (P : List (Nat × Nat)) (k : Nat) {j : Nat} (h : P.length ≤ j) : inP P k j = inI P (k + 1) := by
  unfold inP
  rw [List.take_of_length_le h, inI_succ]
  rfl
theorem inP_has (P : List (Nat × Nat)) (k j : Nat) : (inP P k j).contains (k : Int) = (P.take j).any (tch k) := by
  unfold inP
  have h : ¬ (k : Int) ∈ inI P k := by
    intro h
    obtain ⟨i, h1, h2, -⟩ := mem_inI.1 h
    omega
  cases hq : (P.take j).any (tch k) with
  | false =>
    rw [← Bool.not_eq_true, List.contains_iff_mem]
    simpa using h
  | true =>
    rw [List.contains_iff_mem]
    simp
theorem inP_len (P : List (Nat × Nat)) (k j : Nat) : (inP P k j).length ≤ k + 1 := by
  unfold inP
  rw [List.length_append]
  have := inI_len P k
  split <;> simp <;> omega
theorem inP_same {P : List (Nat × Nat)} {k j : Nat} {p : Nat × Nat} (h : P[j]? = some p) (hq : tch k p = false ∨ (P.take j).any (tch k) = true) : inP P k (j + 1) = inP P k j := by
  unfold inP
  have e : (P.take (j + 1)).any (tch k) = (P.take j).any (tch k) := by
    rw [List.take_add_one, h, List.any_append]
    rcases hq with hq | hq
    · simp [hq]
    · rw [hq]; rfl
  rw [e]
theorem inP_new {P : List (Nat × Nat)} {k j : Nat} {p : Nat × Nat} (h : P[j]? = some p) (hq : tch k p = true) (h0 : (P.take j).any (tch k) = false) : inP P k (j + 1) = inP P k j ++ [(k : Int)] := by
  unfold inP
  have e : (P.take (j + 1)).any (tch k) = true := by
    rw [List.take_add_one, h, List.any_append]
    simp [hq]
  rw [e, h0]
  simp
theorem cover_nil (P : List (Nat × Nat)) (l : List Int) (s : Nat) : coverV P l [] s = (combos l s).find? (cov P) := by
  unfold coverV
  congr 1
  exact (List.map_congr_left (fun x _ => List.nil_append x)).trans (List.map_id _)
theorem beq_cast (a b : Nat) : ((a : Int) == (b : Int)) = (a == b) := by
  by_cases h : a = b
  · subst h; rw [beq_self_eq_true, beq_self_eq_true]
  · have h2 : (a : Int) ≠ (b : Int) := by omega
    rw [beq_eq_false_iff_ne.2 h2, beq_eq_false_iff_ne.2 h]
set_option maxRecDepth 100000 in
set_option maxHeartbeats 10000000 in
theorem refBlamed_any (l0 l1 : Int) (A A2 : Option Addr) (rs : List Rd) (ms : List Mv) (c c2 : Nat) (w : World)
    (hat : At 4 Rd.cs w A rs) (hat2 : At 4 Mv.cs w A2 ms) (hok : (checkB l0 l1 rs ms).2 = 0) (hn8 : rs.length ≤ 8) :
    Calls Tryz.prog 13 #[.agg #[.int .i64 l0, .int .i64 l1, .slice A rs.length c, .slice A2 ms.length c2]] w fun e w' =>
      (∃ A3 cap, e = .returned (.tuple #[.slice A3 (blamedL (allPairs l0 l1 rs ms) rs.length).length cap, .int .i64 0]) ∧ At 1 Ic w' A3 (blamedL (allPairs l0 l1 rs ms) rs.length)) ∧ Below w.heap.size w w' := by
  have hP := Lib.hid fun W hW => refPairs_any l0 l1 A A2 rs ms c c2 W (right_of hok) (hat.below hW) (hat2.below hW)
  have hPl := pairs_len (l0 := l0) (l1 := l1) (rs := rs) (ms := ms) hn8
  have hPi := Lib.hid (pairs_in (l0 := l0) (l1 := l1) (rs := rs) (ms := ms))
  generalize allPairs l0 l1 rs ms = P at *
  generalize rs.length = n at *
  clear hat hat2 hok
  obtain ⟨i0, z0, hi, hz0, hz1, hzs, hz2⟩ := info_of (t := 3) (n := 1) (b := 8) (by kernel_rfl)
  obtain ⟨m, hm⟩ : ∃ m, P.length = m := ⟨_, rfl⟩
  have hm' := Lib.hid hm
  rw [hm] at hPl hP
  clear hm
  go_enter Tryz.func13, Tryz.ntmps13
  go_wp2_with (first | (go_at_call 17; refine (hP.out _ ?_).mono ?_; (· go_grown); rintro e w1 ⟨⟨A3, cap3, rfl, hat3⟩, hb⟩; have hbw := via (by go_grown : Below w.heap.size w _) hb; have hsw := hbw.size; have B0 : w1.heap[w.heap.size]? = some (.cells #[.int .i64 l0, .int .i64 l1, .slice A n c, .slice A2 ms.length c2] 27 (0, 0)) := bk_keep hb (by (repeat (first | assumption | (refine bk_new _ _ ?_; (simp; done)) | refine bk_drew ?_ | refine bk_alloc ?_ _ | refine bk_set ?_ (by simp <;> omega) _)))))
  have hat3' := Lib.hid hat3
  clear hat3 hsw hb
  go_loopw [5, 6] (fun v i wr => ∃ (k : Nat) (Av : Option Addr) (cv : Nat), k ≤ n ∧ i = .int .i64 k ∧ v = .slice Av (inI P k).length cv ∧ wr.ownsRow w1.heap.size 3 1 (.slice Av (inI P k).length cv) (inI P k).length ((inI P k).flatMap Ic) ∧ Below w1.heap.size w1 wr) (fun _ i _ => n - (intOf i).toNat)
  case atStart => exact ⟨0, none, 0, Nat.zero_le _, rfl, rfl, World.ownsRow_nil _ _ _ _, Below.refl _ _⟩
  case round =>
    obtain ⟨k, Av, cv, hk, rfl, rfl, hown, hbr⟩ := hrel
    have hown' := Lib.hid hown
    have C0 := bk4 (bk_keep hbr B0)
    clear hown
    by_cases hlt : k < n
    · have hkI : (k : Int) < (n : Int) := by omega
      go_wp2_with fail
      go_loopw [5, 7] (fun v i wr => ∃ (j : Nat) (Av : Option Addr) (cv : Nat), j ≤ m ∧ i = .int .i64 j ∧ v = .slice Av (inP P k j).length cv ∧ wr.ownsRow w1.heap.size 3 1 (.slice Av (inP P k j).length cv) (inP P k j).length ((inP P k j).flatMap Ic) ∧ Below w1.heap.size w1 wr) (fun _ i _ => m - (intOf i).toNat)
      case atStart => exact ⟨0, Av, cv, Nat.zero_le _, rfl, by rw [inP_zero], by rw [inP_zero]; exact hown'.out, hbr⟩
      case round =>
        clear C0 hbr hown'
        obtain ⟨j, Av, cv, hj, rfl, rfl, hown, hbr⟩ := hrel
        have C0 := bk4 (bk_keep hbr B0)
        have hown' := Lib.hid hown
        obtain ⟨A4, c4, e4, hat4⟩ := at_of_owns (cs := Ic) (sz := 1) (fun _ => rfl) hown
        injection e4 with e41 _ e42
        subst e41 e42
        have hH := Lib.hid fun W (hb : Below wr.heap.size wr W) => has_any Av (inP P k j) cv (k : Int) W (by have := inP_len P k j; omega) (hat4.below hb)
        rw [inP_has] at hH
        have hIl := inP_len P k j
        clear hown hat4
        by_cases hjm : j < m
        · obtain ⟨p, hp⟩ : ∃ p, P[j]? = some p := ⟨_, List.getElem?_eq_getElem (by rw [hm'.out]; exact hjm)⟩
          obtain ⟨b, o, rfl, hbb, hc⟩ := (hat3'.out.below hbr) j p hp
          have y0 := hc 0 _ rfl
          have y1 := hc 1 _ rfl
          simp only [Nat.add_zero] at y0
          have hjI : (j : Int) < (m : Int) := by omega
          have hsame := Lib.hid fun h => inP_same (k := k) hp h
          have hnew := Lib.hid fun h h2 => inP_new (k := k) hp h h2
          obtain ⟨q, hq⟩ : ∃ q, (P.take j).any (tch k) = q := ⟨_, rfl⟩
          rw [hq] at hH hsame hnew
          have ht : tch k p = ((p.1 == k) || (p.2 == k)) := rfl
          obtain ⟨t1, ht1⟩ : ∃ t, (p.1 == k) = t := ⟨_, rfl⟩
          obtain ⟨t2, ht2⟩ : ∃ t, (p.2 == k) = t := ⟨_, rfl⟩
          have hi1 : (((p.1 : Nat) : Int) == (k : Int)) = t1 := by rw [← ht1]; exact beq_cast _ _
          have hi2 : (((p.2 : Nat) : Int) == (k : Int)) = t2 := by rw [← ht2]; exact beq_cast _ _
          rw [ht1, ht2] at ht
          rw [ht] at hsame hnew
          obtain ⟨M, hM⟩ : ∃ M, (inP P k j).length = M := ⟨_, rfl⟩
          have hM' := Lib.hid hM
          rw [hM] at hown' hH hIl ⊢
          obtain ⟨p1, p2⟩ := p
          dsimp only at y0 y1 hi1 hi2
          clear hc hp hq ht1 ht2 ht hM
          cases t1
          · cases t2
            · have hs2 := Lib.hid (hsame.out (.inl rfl))
              go_wp2_with (first | (go_at_call 38; refine (hH.out _ ?_).mono ?_; (· exact Below.refl _ _); rintro e w' ⟨rfl, rfl⟩))
              go_roundw
              case rel => exact ⟨j + 1, Av, cv, by omega, by go_num, by rw [hs2.out, hM'.out], by rw [hs2.out, hM'.out]; exact hown'.out, hbr⟩
              case measure => simp [intOf]; omega
            · cases q
              · have hs2 := Lib.hid (hnew.out rfl rfl)
                go_wp2_with (first
                  | (at_builtin; refine wpList_append_own _ rfl _ _ 28 rfl w1.heap.size 3 i0 z0 1 8 Tryz.underlying28 hi hz0 hz1 hz2 hzs (by decide) _ _ _ rfl (owns_below hown'.out (by go_grown)) ⟨wr.heap.size, 0, none⟩ 1 1 [.int .i64 (k : Int)] rfl rfl ?c1 ?c2 ?c3 ?c4 ?c5 ?_)
                  | (go_at_call 38; refine (hH.out _ ?_).mono ?_; (· exact Below.refl _ _); rintro e w' ⟨rfl, rfl⟩))
                case c1 => exact cells_new' _ [.int .i64 (k : Int)] _ (by simp)
                case c2 => intro u hu; simp at hu; subst hu; rfl
                case c3 => unfold maxLen; omega
                case c4 => omega
                case c5 => simp; have := hbr.size; omega
                intro v' w9 hown9 hg9 _
                obtain ⟨g', cap, rfl, -, -⟩ := hown9.form (by omega)
                have hbt9 : Below w1.heap.size w1 w9 := by
                  refine grown_below ?_ hg9 (fun r e => (hown'.out.lt r e).1)
                  exact via_alloc hbr _
                have hown10 : Hid (w9.ownsRow w1.heap.size 3 1 (.slice (some ⟨g', 0, none⟩) (M + 1) cap) (M + 1) ((inP P k j ++ [(k : Int)]).flatMap Ic)) := by
                  unfold Hid
                  rw [List.flatMap_append]
                  exact hown9
                clear hown9 hg9
                go_wp2
                go_roundw
                case rel => exact ⟨j + 1, _, _, by omega, by go_num, by rw [hs2.out, List.length_append, hM'.out]; rfl, by rw [hs2.out, List.length_append, hM'.out]; exact hown10.out, hbt9⟩
                case measure => simp [intOf]; omega
              · have hs2 := Lib.hid (hsame.out (.inr rfl))
                go_wp2_with (first | (go_at_call 38; refine (hH.out _ ?_).mono ?_; (· exact Below.refl _ _); rintro e w' ⟨rfl, rfl⟩))
                go_roundw
                case rel => exact ⟨j + 1, Av, cv, by omega, by go_num, by rw [hs2.out, hM'.out], by rw [hs2.out, hM'.out]; exact hown'.out, hbr⟩
                case measure => simp [intOf]; omega
          · cases q
            · have hs2 := Lib.hid (hnew.out rfl rfl)
              go_wp2_with (first
                | (at_builtin; refine wpList_append_own _ rfl _ _ 28 rfl w1.heap.size 3 i0 z0 1 8 Tryz.underlying28 hi hz0 hz1 hz2 hzs (by decide) _ _ _ rfl (owns_below hown'.out (by go_grown)) ⟨wr.heap.size, 0, none⟩ 1 1 [.int .i64 (k : Int)] rfl rfl ?c1 ?c2 ?c3 ?c4 ?c5 ?_)
                | (go_at_call 38; refine (hH.out _ ?_).mono ?_; (· exact Below.refl _ _); rintro e w' ⟨rfl, rfl⟩))
              case c1 => exact cells_new' _ [.int .i64 (k : Int)] _ (by simp)
              case c2 => intro u hu; simp at hu; subst hu; rfl
              case c3 => unfold maxLen; omega
              case c4 => omega
              case c5 => simp; have := hbr.size; omega
              intro v' w9 hown9 hg9 _
              obtain ⟨g', cap, rfl, -, -⟩ := hown9.form (by omega)
              have hbt9 : Below w1.heap.size w1 w9 := by
                refine grown_below ?_ hg9 (fun r e => (hown'.out.lt r e).1)
                exact via_alloc hbr _
              have hown10 : Hid (w9.ownsRow w1.heap.size 3 1 (.slice (some ⟨g', 0, none⟩) (M + 1) cap) (M + 1) ((inP P k j ++ [(k : Int)]).flatMap Ic)) := by
                unfold Hid
                rw [List.flatMap_append]
                exact hown9
              clear hown9 hg9
              go_wp2
              go_roundw
              case rel => exact ⟨j + 1, _, _, by omega, by go_num, by rw [hs2.out, List.length_append, hM'.out]; rfl, by rw [hs2.out, List.length_append, hM'.out]; exact hown10.out, hbt9⟩
              case measure => simp [intOf]; omega
            · have hs2 := Lib.hid (hsame.out (.inr rfl))
              go_wp2_with (first | (go_at_call 38; refine (hH.out _ ?_).mono ?_; (· exact Below.refl _ _); rintro e w' ⟨rfl, rfl⟩))
              go_roundw
              case rel => exact ⟨j + 1, Av, cv, by omega, by go_num, by rw [hs2.out, hM'.out], by rw [hs2.out, hM'.out]; exact hown'.out, hbr⟩
              case measure => simp [intOf]; omega
        · have hjn : ¬ (j : Int) < (m : Int) := by omega
          have hall := inP_all P k (j := j) (by rw [hm'.out]; omega)
          rw [hall] at hown' ⊢
          clear hall hH hIl
          go_wp2
          go_roundw
          case rel => exact ⟨k + 1, Av, cv, by omega, by go_num, rfl, hown'.out, hbr⟩
          case measure => simp [intOf]; omega
    · have hkn : k = n := by omega
      have hkI : ¬ (k : Int) < (n : Int) := by omega
      subst hkn
      have hfind := Lib.hid (blamed_find (P := P) (n := k) hPi.out)
      obtain ⟨L, hL⟩ : ∃ L, blamedL P k = L := ⟨_, rfl⟩
      have hLe := Lib.hid hL
      rw [hL] at hfind
      obtain ⟨A4, c4, e4, hat4⟩ := at_of_owns (cs := Ic) (sz := 1) (fun _ => rfl) hown'.out
      injection e4 with e41 _ e42
      subst e41 e42
      have hcap : Hid ((inI P k).length ≤ cv) := by
        rcases hown'.out.2 with ⟨h, h2⟩ | ⟨g, cap, cur, h, -, -, h3, -⟩
        · injection h with _ _ h; unfold Hid; omega
        · injection h with _ _ h; unfold Hid; omega
      have hat4' := Lib.hid hat4
      have hll := inI_len P k
      obtain ⟨al, hal⟩ : ∃ al, inI P k = al := ⟨_, rfl⟩
      rw [hal] at hfind hcap hat4' hll ⊢
      obtain ⟨q, hq⟩ : ∃ q, al.length = q := ⟨_, rfl⟩
      have hq' := Lib.hid hq
      have hcv := Lib.hid fun (s : Nat) (hs : s ≤ 100) W (hb : Below wr.heap.size wr W) => cover_any P A3 cap3 (by rw [hm'.out]; omega) s Av none al [] cv 0 W (by omega) hcap.out (by simp; omega) hs (hat3'.out.below (via hbr hb)) (hat4'.out.below hb) (fun k x hx => by simp at hx)
      rw [hm'.out] at hcv
      rw [hq] at hcv hfind hll ⊢
      have hw1w : w.heap.size ≤ w1.heap.size := hbw.size
      have hb1 : Below w.heap.size w wr := via hbw hbr
      clear hat4 hown' hal hq hL hlt B0 hbr hbw
      have h14 : ¬ (14 : Int) < (q : Int) := by omega
      go_wp2
      clear C0 hkI
      go_loopw [8] (fun i wr' => ∃ (s : Nat), s ≤ q + 1 ∧ i = .int .i64 s ∧ Hid (firstSize (fun s => (combos al s).find? (cov P)) (q + 1 - s) s = some L) ∧ Below wr.heap.size wr wr') (fun i _ => q + 1 - (intOf i).toNat)
      case atStart => exact ⟨0, Nat.zero_le _, rfl, hfind.out, Below.refl _ _⟩
      case round =>
        obtain ⟨s, hs, rfl, hfs, hbs⟩ := hrel
        have hsq : s < q + 1 := by
          apply Decidable.byContradiction
          intro h
          have := hfs.out
          rw [show q + 1 - s = 0 by omega] at this
          cases this
        have hsI : (s : Int) ≤ (q : Int) := by omega
        have hfs2 := hfs.out
        rw [show q + 1 - s = (q + 1 - (s + 1)) + 1 by omega] at hfs2
        unfold firstSize at hfs2
        rename_i wrs _
        have hC := hcv.out s (by omega) _ hbs
        rw [cover_nil] at hC
        obtain ⟨O, hO⟩ : ∃ O, (combos al s).find? (cov P) = O := ⟨_, rfl⟩
        rw [hO] at hC hfs2
        have hC' := Lib.hid hC
        have hfs3 := Lib.hid hfs2
        clear hO hC hfs2 hfs
        cases O with
        | none =>
          go_wp2_with (go_at_call 39; refine hC'.out.mono ?_; rintro e w5 ⟨he, hb5⟩; obtain rfl := he; have hb6 := via hbs hb5)
          go_roundw
          case rel => exact ⟨s + 1, by omega, by go_num, hfs3.out, hb6⟩
          case measure => simp [intOf]; omega
        | some r =>
          obtain rfl : r = L := by have := hfs3.out; injection this
          go_wp2_with (go_at_call 39; refine hC'.out.mono ?_; rintro e w5 ⟨⟨A6, c6, rfl, hat6⟩, hb5⟩; have hb6 := via hbs hb5; have hat6' := Lib.hid hat6; clear hat6)
          refine bodyPost_ret (v := .tuple #[.slice A6 r.length c6, .int .i64 0]) ?_ rfl ⟨?_, via hb1 hb6⟩
          · simp [results, Tryz.results13, go_sem]
          · rw [hLe.out]
            exact ⟨A6, c6, rfl, hat6'.out⟩
end Go.Proofs
