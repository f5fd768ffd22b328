import Derived.Test.YtpmliaildjomeaaGreatDoorMg36
import Derived.Test.YtpmliaildjomeaaGreatDoorMg28
import Derived.Test.YtpmliaildjomeaaGreatDoorMg29
import Derived.Test.YtpmliaildjomeaaGreatDoorMg34
import Derived.Test.YtpmliaildjomeaaGreatDoorMg33
import Derived.Test.YtpmliaildjomeaaGreatDoorMg10
import Derived.Lib.Builder
import Derived.Lib.AppendStr
import Derived.Laws.Externs
set_option linter.unusedSimpArgs false
set_option linter.unusedVariables false
namespace Go.Proofs
open Go.RowKit
set_option linter.unusedVariables false
/-! ParseCertificate of what FormatCertificate wrote. -/
theorem name_signs {l : List UInt8} (h : nameB l = true) : ∀ c ∈ l, c ≠ 32 ∧ c ≠ 10 := fun c hc => by
  unfold nameB charsOk at h
  simp only [Bool.and_eq_true, List.all_eq_true, List.mem_range] at h
  obtain ⟨i, hi⟩ := List.getElem?_of_mem hc
  have h1 := h.2 i (List.getElem?_eq_some_iff.1 hi).1
  rw [List.getD_eq_getElem?_getD, hi] at h1
  simp only [Option.getD_some] at h1
  constructor
  · rintro rfl
    revert h1
    simp [charOk, letter]
  · rintro rfl
    revert h1
    simp [charOk, letter]
def certN (k ag v den lev : Int) (W : List Int) : List Int := if k = 1 then ag :: v :: den :: lev :: W else v :: den :: lev :: W
theorem certW_eq (nm : List UInt8) (k ag v den lev : Int) (W : List Int) : certW nm k ag v den lev W = nm :: (if k = 1 then txShare else txMean) :: (certN k ag v den lev W).map Lib.itoa := by
  unfold certW certN
  split <;> simp
theorem mean_eq : ((bs txMean).toList == [109, 101, 97, 110]) = true ∧ ((bs txMean).toList == [115, 104, 97, 114, 101]) = false ∧ ((bs txShare).toList == [109, 101, 97, 110]) = false ∧ ((bs txShare).toList == [115, 104, 97, 114, 101]) = true := by
  rw [ByteArray.toList_eq, ByteArray.toList_eq, bs_data, bs_data]
  decide
theorem certN_len (k ag v den lev : Int) (W : List Int) : 3 ≤ (certN k ag v den lev W).length ∧ (certN k ag v den lev W).length = W.length + (if k = 1 then 4 else 3) := by
  unfold certN
  split <;> simp
theorem certW_cut {nm : List UInt8} {k ag v den lev : Int} {W : List Int} (hn : nameB nm = true) : cutL (Lib.join (certW nm k ag v den lev W) [32]) = certW nm k ag v den lev W := by
  refine cut_join _ (by rw [certW_eq]; simp) fun x hx => ?_
  rw [certW_eq] at hx
  rcases List.mem_cons.1 hx with rfl | hx
  · exact fun c hc => (name_signs hn c hc).1
  rcases List.mem_cons.1 hx with rfl | hx
  · split <;> decide
  · obtain ⟨n, -, rfl⟩ := List.mem_map.1 hx
    exact fun c hc => ((itoa_signs n).2 c hc).1
section
variable {P : Program} {f : Operand → Value} {o : Oper} {t ty : TypeId} {p q : Operand} {b : Nat} {v0 v1 v2 u0 u1 u2 u3 u4 u5 u6 : Value} {x : World}
theorem run_at4 (ho : o.op = .store t p q) (h0 : v0.oneCell' = true) (h1 : v1.oneCell' = true) (h2 : v2.oneCell' = true) (hsz : Sem.run P (sizeOf t) x = .ok 3 x) (hp : f p = .pointer (some ⟨b, 4, none⟩)) (hq : f q = .agg #[v0, v1, v2]) (hz : x.heap[b]? = some (.cells #[u0, u1, u2, u3, u4, u5, u6] ty (0, 0))) :
    (execOp f o).run P x = .ok .skip (((x.setCell ⟨b, 4, none⟩ v0).setCell ⟨b, 5, none⟩ v1).setCell ⟨b, 6, none⟩ v2) := by
  have Cz := bk7 hz
  unfold execOp
  rw [ho]
  simp [go_sem, hp, hq, Cz, hsz, run_store _ _ _ v0 _ h0, run_store _ _ _ v1 _ h1, run_store _ _ _ v2 _ h2]
theorem run_at1 (ho : o.op = .store t p q) (h0 : v0.oneCell' = true) (h1 : v1.oneCell' = true) (hsz : Sem.run P (sizeOf t) x = .ok 2 x) (hp : f p = .pointer (some ⟨b, 1, none⟩)) (hq : f q = .agg #[v0, v1]) (hz : x.heap[b]? = some (.cells #[u0, u1, u2, u3, u4, u5, u6] ty (0, 0))) :
    (execOp f o).run P x = .ok .skip ((x.setCell ⟨b, 1, none⟩ v0).setCell ⟨b, 2, none⟩ v1) := by
  have Cz := bk7 hz
  unfold execOp
  rw [ho]
  simp [go_sem, hp, hq, Cz, hsz, run_store _ _ _ v0 _ h0, run_store _ _ _ v1 _ h1]
theorem run_at3 {n : Int} (ho : o.op = .store t p q) (hsz : Sem.run P (sizeOf t) x = .ok 1 x) (hp : f p = .pointer (some ⟨b, 3, none⟩)) (hq : f q = .int .i64 n) (hz : x.heap[b]? = some (.cells #[u0, u1, u2, u3, u4, u5, u6] ty (0, 0))) :
    (execOp f o).run P x = .ok .skip (x.setCell ⟨b, 3, none⟩ (.int .i64 n)) := by
  have Cz := bk7 hz
  unfold execOp
  rw [ho]
  simp [go_sem, hp, hq, Cz, hsz]
end
set_option maxRecDepth 100000 in
set_option maxHeartbeats 4000000 in
theorem parseMean_any (nm : List UInt8) (v den lev : Int) (W : List Int) (wn : Nat) (w : World) (hnm : nm.length ≤ 20) (hnb : nameB nm = true) (hR : NumsR 0 v den lev W) (hwn : W.length = wn) (ht : Tabs w) :
    Calls Tryz.prog 10 #[.string (bs (Lib.join (certW nm 0 0 v den lev W) [32]))] w fun e w' => (∃ A c, e = .returned (.tuple #[.agg #[.string (bs nm), .int .i64 0, .int .i64 0, .int .i64 v, .int .i64 den, .int .i64 lev, .slice A wn c], .int .i64 0]) ∧ At 1 Zc w' A W) ∧ Below w.heap.size w w' := by
  have hlen := certW_len (k := 0) hnm hR
  have hSp := Lib.hid fun W' (hb : Below w.heap.size w W') => split_any (bs (Lib.join (certW nm 0 0 v den lev W) [32])) W' (by rw [bs_size]; omega) (ht.below hb)
  simp only [bs_data, certW_cut hnb] at hSp
  obtain ⟨hw1, hw2, -⟩ := certW_words (k := 0) hnm hR
  have hnN : ∀ x ∈ certN 0 0 v den lev W, x.natAbs < 10 ^ (12 + 1) := fun x hx => by
    have h1 := hR.ag; have h2 := hR.v; have h3 := hR.den; have h4 := hR.lev
    unfold certN at hx
    split at hx
    · simp only [List.mem_cons] at hx
      rcases hx with rfl | rfl | rfl | rfl | hx
      · omega
      · omega
      · omega
      · omega
      · have := hR.wt x hx; omega
    · simp only [List.mem_cons] at hx
      rcases hx with rfl | rfl | rfl | hx
      · omega
      · omega
      · omega
      · have := hR.wt x hx; omega
  have hNu := Lib.hid fun (A : Option Addr) (m c : Nat) (W' : World) (hb : Below w.heap.size w W') (hA : At 1 Sc W' A ((certN 0 0 v den lev W).map Lib.itoa)) (hm : (certN 0 0 v den lev W).length = m) (h9 : m ≤ 900) => numbers_any A (certN 0 0 v den lev W) 12 m c W' (by decide) hnN hA hm h9 (ht.below hb)
  obtain ⟨S, hS⟩ : ∃ S, bs (Lib.join (certW nm 0 0 v den lev W) [32]) = S := ⟨_, rfl⟩
  rw [hS] at hSp ⊢
  rw [certW_eq] at hSp
  have e13 : ((12 + 1 : Nat) : Int) = 13 := rfl
  simp only [e13] at hNu
  have hR' := Lib.hid hR
  have hnb' := Lib.hid hnb
  have hs7 : ∀ x, (sizeOf 37).run Tryz.prog x = .ok 7 x := fun x => by kernel_rfl
  have ha7 : ∀ x, (isAgg 37).run Tryz.prog x = .ok true x := fun x => by kernel_rfl
  have hv1 := Lib.hid fun W => within_any v 0 1000 W
  have hv2 := Lib.hid fun W => within_any den 1 1000000000000 W
  have hv3 := Lib.hid fun W => csmall_any lev 1000000000000 W (by decide)
  rw [within_iff.2 hR.v] at hv1
  rw [within_iff.2 hR.den] at hv2
  rw [show smallB lev 1000000000000 = true from within_iff.2 (by have := hR.lev; omega)] at hv3
  have hNm := Lib.hid fun W => isName_any (bs nm) W (by rw [bs_size]; omega)
  rw [bs_data, hnb] at hNm
  have hAs := Lib.hid fun W => checkAsk_any 0 0 W
  rw [askE_zero.2 ⟨.inl rfl, hR.ag.1, hR.ag.2⟩] at hAs
  clear hlen hw1 hw2 hnN hS ht hR hnb
  obtain ⟨q1, q2, q3, q4⟩ := mean_eq
  obtain ⟨l1, l2⟩ := certN_len 0 0 v den lev W
  have hW8 := hR'.out.n
  obtain ⟨N, hN⟩ : ∃ N, certN 0 0 v den lev W = N := ⟨_, rfl⟩
  have hN' := Lib.hid hN
  rw [hN] at hSp hNu l1 l2
  obtain ⟨m, hm⟩ : ∃ m, N.length = m := ⟨_, rfl⟩
  have hm' := Lib.hid hm
  obtain ⟨n, hn⟩ : ∃ n, m + 1 + 1 = n := ⟨_, rfl⟩
  simp only [List.length_cons, List.length_map, hm, hn] at hSp hNu
  have l2' := Lib.hid l2
  have hm3 : 3 ≤ m := by omega
  have hm12 : m ≤ 12 := by split at l2 <;> omega
  have hnI : ¬ (n : Int) < 2 := by omega
  have hn0 : (0 : Int) < (n : Int) := by omega
  have hn1 : (1 : Int) < (n : Int) := by omega
  have hn2 : (2 : Int) ≤ (n : Int) := by omega
  have hmn : n - 2 = m := by omega
  have hmI : ¬ (m : Int) < 3 := by omega
  have hmI0 : (0 : Int) < (m : Int) := by omega
  have hmI1 : (1 : Int) < (m : Int) := by omega
  have hmI2 : (2 : Int) < (m : Int) := by omega
  clear hN hm hn l1 l2 hW8 e13
  simp only [show ¬ ((0 : Int) = 1) by decide, if_false] at hSp
  go_enter Tryz.func10, Tryz.ntmps10
  go_wp2_with (first | (go_at_call 31; refine (hSp.out _ (by go_grown)).mono ?_; rintro e w2 ⟨⟨A, c, rfl, hAt, hnc⟩, hb2⟩; (obtain ⟨b, o, rfl, hbs, hc0⟩ := hAt 0 _ rfl); (obtain ⟨b', o', e1, -, hc1⟩ := hAt 1 _ rfl); cases e1; (have y0 := hc0 0 _ rfl); (have y1 := hc1 0 _ rfl); (have hAt2 := Lib.hid (hAt.tail1 2)); simp only [Nat.add_zero, Nat.zero_mul, Nat.one_mul] at y0 y1; (have M0 := bk_keep hb2 (bk_new w (.cells #[.string (ByteArray.mk #[]), .int .i64 0, .int .i64 0, .int .i64 0, .int .i64 0, .int .i64 0, .slice none 0 0] 37 (0, 0)) rfl)); (have hs2 := bk_size M0); (have hbw2 := via (new_below w (.cells #[.string (ByteArray.mk #[]), .int .i64 0, .int .i64 0, .int .i64 0, .int .i64 0, .int .i64 0, .slice none 0 0] 37 (0, 0))) hb2); clear hAt hc0 hc1 hb2) | (go_at_call 32; refine (hNu.out _ m _ _ hbw2 (by have := hAt2.out; simpa using this) rfl (by omega)).mono ?_; rintro e w3 ⟨⟨A2, c2, rfl, hO3⟩, hb3⟩; (have z0 := cell_below y0 hb3); (have z1 := cell_below y1 hb3); (have M1 := bk_keep hb3 M0); (have hbw3 := via hbw2 hb3); (have hO3' := Lib.hid hO3); (have hbs3 := Nat.lt_of_lt_of_le hbs hb3.size); clear hO3 hb3 y0 y1 M0) | (refine wpList_store_block (by with_reducible rfl) (.tmp 7) (.tmp 40) 37 (by with_reducible rfl) w3.heap.size [.string (bs nm), .int .i64 0, .int .i64 0, .int .i64 0, .int .i64 0, .int .i64 0, .slice none 0 0] [.string (ByteArray.mk #[]), .int .i64 0, .int .i64 0, .int .i64 0, .int .i64 0, .int .i64 0, .slice none 0 0] 37 ?sp ?sq (hs7 _) ?sb rfl (by simp [Value.oneCell']) ?_))
  case sp => rfl
  case sq => rfl
  case sb => exact bk_new _ _ rfl
  intro w4 hblk4 hg4 hsz4
  have hs03 := bk_size M1
  have hb34 : Below w3.heap.size w3 w4 := grown_below (new_below _ _) hg4 fun b e => by cases e; exact Nat.le_refl _
  have x0 := cell_below z0 hb34
  have x1 := cell_below z1 hb34
  have M2 := bk_keep hb34 M1
  have hb4 := via hbw3 hb34
  have hL := Lib.hid (own_ints hO3'.out)
  have hL4 := Lib.hid ((own_ints hO3'.out).below hb34)
  have hNe : N = v :: den :: lev :: W := by rw [← hN'.out]; rfl
  subst hNe
  have hmc2 : m ≤ c2 := own_le hO3'.out
  have hmw : m - 3 = wn := by have := hm'.out; simp at this; omega
  obtain ⟨B2, o2, rfl, hB3, c0⟩ := zc_cell hL.out (k := 0) (by simp)
  obtain ⟨_, _, ee, -, c1⟩ := zc_cell hL.out (k := 1) (by simp)
  cases ee
  obtain ⟨_, _, ee, -, c2'⟩ := zc_cell hL.out (k := 2) (by simp)
  cases ee
  simp only [List.getD_cons_zero, List.getD_cons_succ, Nat.add_zero] at c0 c1 c2'
  have e0 := cell_below c0 hb34
  have e1 := cell_below c1 hb34
  have e2 := cell_below c2' hb34
  have hB2 := Nat.lt_of_lt_of_le hB3 hb34.size
  have hB2n : B2 ≠ w3.heap.size := by omega
  have hB2w : B2 ≠ w.heap.size := by have := (hO3'.out.lt B2 rfl).1; omega
  clear c0 c1 c2'
  have F0 := bk7 M2
  have F4 := bk7 hblk4
  clear hg4 hsz4 hb34 M1 z0 z1 hbw2
  have hbX := hb4
  have hblkX := hblk4
  have hTl := Lib.hid (hL4.out.tail1 3)
  simp only [Nat.mul_one] at hTl
  clear hb4 hblk4 hL4 hL
  go_wp2
  refine wp_region_any (by kernel_rfl) ?_
  refine any_last 15 _ rfl rfl (by kernel_rfl) (by kernel_rfl) (by kernel_rfl) (by kernel_rfl) ?_
  simp only [List.take_succ_cons, List.take_zero]
  apply any_st1 w 13 w3.heap.size (.cells #[.string (bs nm), .int .i64 0, .int .i64 0, .int .i64 0, .int .i64 0, .int .i64 0, .slice none 0 0] 37 (0, 0)) (.cells #[.string (bs nm), .int .i64 0, .int .i64 0, .int .i64 v, .int .i64 0, .int .i64 0, .slice none 0 0] 37 (0, 0))
  case hB => kernel_rfl
  case hB' => kernel_rfl
  case hS => kernel_rfl
  case hN => kernel_rfl
  case hkd => kernel_rfl
  case hw => exact hbX
  case hb => exact hbw3.size
  case h4 => exact hblkX
  case hq =>
    intro u hu hgc
    have hB2u := Nat.lt_of_lt_of_le hB2 hu.2.1
    have G0 := (World.cell?_of_block (a := ⟨B2, o2, none⟩) (hu.2.2 B2 hB2 hB2n)).trans e0
    have G1 := (World.cell?_of_block (a := ⟨B2, o2 + 1, none⟩) (hu.2.2 B2 hB2 hB2n)).trans e1
    have G2 := (World.cell?_of_block (a := ⟨B2, o2 + 2, none⟩) (hu.2.2 B2 hB2 hB2n)).trans e2
    simp only [mixL, yieldsC, List.contains_cons, List.contains_nil, Nat.reduceAdd, Nat.reduceBEq, Nat.zero_add, Bool.or_false, Bool.or_true, Bool.false_or, Bool.true_or, Bool.false_eq_true, if_true, if_false, Bool.or_self, Nat.reduceEqDiff]
    repeat (go_big_quiet_step (fail))
    exact wpQuiet_nil rfl
  case hs4 =>
    intro o ho x hx hz
    simp only [List.getElem?_cons_succ, List.getElem?_cons_zero, Option.some.injEq] at ho
    subst ho
    exact ⟨_, run_at3 rfl (by kernel_rfl) rfl rfl hz, (OnlyB.refl _ _).set _ _, bk_here hz _ rfl⟩
  intro x hx hz
  refine oper_skip (run_at4 rfl rfl rfl rfl (by kernel_rfl) rfl rfl hz) ?_
  obtain ⟨A9, hA9⟩ : ∃ A : Option Addr, (if c2 = 3 then some ⟨B2, o2, none⟩ else some ⟨B2, o2 + 3, none⟩) = A := ⟨_, rfl⟩
  obtain ⟨X9, hX9⟩ : ∃ X, ((x.setCell ⟨w3.heap.size, 4, none⟩ (.int .i64 den)).setCell ⟨w3.heap.size, 5, none⟩ (.int .i64 lev)).setCell ⟨w3.heap.size, 6, none⟩ (.slice A9 wn (c2 - 3)) = X := ⟨_, rfl⟩
  have hO9 : OnlyB w3.heap.size x X9 := by rw [← hX9]; exact (((OnlyB.refl _ _).set _ _).set _ _).set _ _
  have Z9 : X9.heap[w3.heap.size]? = some (.cells #[.string (bs nm), .int .i64 0, .int .i64 0, .int .i64 v, .int .i64 den, .int .i64 lev, .slice A9 wn (c2 - 3)] 37 (0, 0)) := by rw [← hX9]; exact bk_here (bk_here (bk_here hz _ rfl) _ rfl) _ rfl
  have hz9 : x.heap.size = X9.heap.size := by rw [← hX9]; simp
  simp only [hmw, hA9]
  rw [hX9]
  have hk9 : ∀ k, k < w4.heap.size → k ≠ w3.heap.size → X9.heap[k]? = w4.heap[k]? := fun k h1 h2 => (hO9.other k h2).trans (hx.2.2 k h1 h2)
  have hb9 : Below w.heap.size w X9 := hx.1.trans (hO9.below _ hbw3.size)
  have M9 := (hk9 w.heap.size (bk_size M2) (by omega)).trans M2
  have hL9 := Lib.hid (show At 1 Zc X9 A9 W from by
    rw [← hA9]
    split
    · have h0 : wn = 0 := by omega
      rw [List.eq_nil_of_length_eq_zero (hwn.trans h0)]
      exact fun k x hx => by simp at hx
    · exact at_kept (hTl.out) (by have := hx.2.1; omega) fun g e => by cases e; exact hk9 _ hB2 hB2n)
  have F9 := bk7 Z9
  have J0 := bk7 M9
  clear hX9 hk9 hO9 hz9 hx hz hTl e0 e1 e2 hblkX M2
  go_wp2_with (first
    | (go_at_call 33; first | (refine Calls.mono (by with_reducible exact hv1.out _) ?_; rintro e w' ⟨rfl, rfl⟩) | (refine Calls.mono (by with_reducible exact hv2.out _) ?_; rintro e w' ⟨rfl, rfl⟩))
    | (go_at_call 34; refine (hv3.out _).mono ?_; rintro e w' ⟨rfl, rfl⟩))
  go_loopw [8, 105] (fun r i wr => ∃ j : Nat, j ≤ wn ∧ r = .bool true ∧ i = .int .i64 j ∧ wr = X9) (fun _ i _ => wn - (intOf i).toNat)
  case atStart => exact ⟨0, Nat.zero_le _, rfl, rfl, rfl⟩
  case round =>
    obtain ⟨j, hj, rfl, rfl, rfl⟩ := hrel
    by_cases hlt : j < wn
    · have hjI : (j : Int) < (wn : Int) := by omega
      obtain ⟨b3, o3, rfl, hs3, c4⟩ := zc_cell hL9.out (k := j) (by rw [hwn]; exact hlt)
      obtain ⟨y, hy⟩ : ∃ y, W.getD j 0 = y := ⟨_, rfl⟩
      have hyb : 0 ≤ y ∧ y ≤ 1000000000000 := by
        rw [← hy, List.getD_eq_getElem?_getD, List.getElem?_eq_getElem (by omega)]
        exact hR'.out.wt _ (List.getElem_mem _)
      rw [hy] at c4
      have hvy := Lib.hid fun W => within_any y 0 1000000000000 W
      rw [within_iff.2 hyb] at hvy
      go_wp2_with (go_at_call 33; refine (hvy.out _).mono ?_; rintro e w' ⟨rfl, rfl⟩)
      go_roundw
      case rel => exact ⟨j + 1, by omega, by first | rfl | trivial, by go_num, by first | rfl | trivial⟩
      case measure => first | (simp [intOf]; done) | (simp [intOf]; omega)
    · obtain rfl : wn = j := by omega
      have hW8 := hR'.out.n
      have hwn8 : (wn : Int) ≤ 8 := by omega
      have hwn8b : decide ((wn : Int) ≤ 8) = true := by simpa using hwn8
      go_wp2
      refine region_in w 15 (by kernel_rfl) (by kernel_rfl) hb9 ?_
      intro hgc hbx
      simp only [List.take_succ_cons, List.take_zero, List.drop_succ_cons, List.drop_zero]
      repeat (go_big_quiet_step (first
        | (go_at_call 29; with_reducible exact Grew.call (hNm.out _))
        | (go_at_call 37; with_reducible exact Grew.call (hAs.out _))
        | (go_at_call 36; with_reducible exact Grew.call_same (unless_any _ _ _))))
      refine wpQuiet_nil ?_
      intro wb hb_wb hw_wb hs_wb
      clear hgc hbx
      have Q9 := bk_keep hb_wb Z9
      have P9 := bk_keep hb_wb M9
      have hLb := Lib.hid (hL9.out.below hb_wb)
      have hbb := via hb9 hb_wb
      clear Z9 M9 F9 J0
      go_wp2_with (first
        | (go_at_call 35; refine (first4 _ _ _ _ _).mono ?_; rintro e w' ⟨rfl, rfl⟩)
        | (refine wpList_load_block (by with_reducible rfl) (.tmp 7) 37 (by with_reducible rfl) w3.heap.size [.string (bs nm), .int .i64 0, .int .i64 0, .int .i64 v, .int .i64 den, .int .i64 lev, .slice A9 wn (c2 - 3)] 37 ?lp (ha7 _) (hs7 _) ?lb ?_)
        | (refine wpList_store_block (by with_reducible rfl) (.tmp 2) (.tmp 136) 37 (by with_reducible rfl) w.heap.size [.string (bs nm), .int .i64 0, .int .i64 0, .int .i64 v, .int .i64 den, .int .i64 lev, .slice A9 wn (c2 - 3)] [.string (ByteArray.mk #[]), .int .i64 0, .int .i64 0, .int .i64 0, .int .i64 0, .int .i64 0, .slice none 0 0] 37 ?sp2 ?sq2 (hs7 _) ?sb2 rfl (by simp [Value.oneCell']) ?_))
      case lp => rfl
      case lb => exact bk_alloc Q9 _
      all_goals try (case sp2 => rfl)
      all_goals try (case sq2 => rfl)
      case sb2 => exact bk_alloc P9 _
      intro w9 hblk9 hg9 hsz9
      have hb9f : Below w.heap.size w w9 := grown_below (via hbb (new_below _ _)) hg9 fun b e => by have := Option.some.inj e; omega
      have hLf := Lib.hid (at_grown (hLb.out.below (new_below _ _)) hg9 fun g e => by
        rw [← hA9] at e
        split at e <;> (cases e; intro h; exact hB2w (Option.some.inj h)))
      go_wp2
      refine bodyPost_ret (v := .tuple #[.agg #[.string (bs nm), .int .i64 0, .int .i64 0, .int .i64 v, .int .i64 den, .int .i64 lev, .slice A9 wn (c2 - 3)], .int .i64 0]) ?_ rfl ⟨⟨A9, c2 - 3, rfl, hLf.out⟩, hb9f⟩
      exact results_cell2t (p := 2) (u := 3) (ad := ⟨w.heap.size, 0, none⟩) (v := .agg #[.string (bs nm), .int .i64 0, .int .i64 0, .int .i64 v, .int .i64 den, .int .i64 lev, .slice A9 wn (c2 - 3)]) rfl (by rfl) (run_loadBlock (T := 37) (cs := [.string (bs nm), .int .i64 0, .int .i64 0, .int .i64 v, .int .i64 den, .int .i64 lev, .slice A9 wn (c2 - 3)]) (ha7 _) (hs7 _) hblk9)
set_option maxRecDepth 100000 in
set_option maxHeartbeats 4000000 in
theorem parseShare_any (nm : List UInt8) (ag v den lev : Int) (W : List Int) (wn : Nat) (w : World) (hnm : nm.length ≤ 20) (hnb : nameB nm = true) (hR : NumsR ag v den lev W) (hwn : W.length = wn) (ht : Tabs w) :
    Calls Tryz.prog 10 #[.string (bs (Lib.join (certW nm 1 ag v den lev W) [32]))] w fun e w' => (∃ A c, e = .returned (.tuple #[.agg #[.string (bs nm), .int .i64 1, .int .i64 ag, .int .i64 v, .int .i64 den, .int .i64 lev, .slice A wn c], .int .i64 0]) ∧ At 1 Zc w' A W) ∧ Below w.heap.size w w' := by
  have hlen := certW_len (k := 1) hnm hR
  have hSp := Lib.hid fun W' (hb : Below w.heap.size w W') => split_any (bs (Lib.join (certW nm 1 ag v den lev W) [32])) W' (by rw [bs_size]; omega) (ht.below hb)
  simp only [bs_data, certW_cut hnb] at hSp
  obtain ⟨hw1, hw2, -⟩ := certW_words (k := 1) hnm hR
  have hnN : ∀ x ∈ certN 1 ag v den lev W, x.natAbs < 10 ^ (12 + 1) := fun x hx => by
    have h1 := hR.ag; have h2 := hR.v; have h3 := hR.den; have h4 := hR.lev
    unfold certN at hx
    split at hx
    · simp only [List.mem_cons] at hx
      rcases hx with rfl | rfl | rfl | rfl | hx
      · omega
      · omega
      · omega
      · omega
      · have := hR.wt x hx; omega
    · simp only [List.mem_cons] at hx
      rcases hx with rfl | rfl | rfl | hx
      · omega
      · omega
      · omega
      · have := hR.wt x hx; omega
  have hNu := Lib.hid fun (A : Option Addr) (m c : Nat) (W' : World) (hb : Below w.heap.size w W') (hA : At 1 Sc W' A ((certN 1 ag v den lev W).map Lib.itoa)) (hm : (certN 1 ag v den lev W).length = m) (h9 : m ≤ 900) => numbers_any A (certN 1 ag v den lev W) 12 m c W' (by decide) hnN hA hm h9 (ht.below hb)
  obtain ⟨S, hS⟩ : ∃ S, bs (Lib.join (certW nm 1 ag v den lev W) [32]) = S := ⟨_, rfl⟩
  rw [hS] at hSp ⊢
  rw [certW_eq] at hSp
  have e13 : ((12 + 1 : Nat) : Int) = 13 := rfl
  simp only [e13] at hNu
  have hR' := Lib.hid hR
  have hnb' := Lib.hid hnb
  have hs7 : ∀ x, (sizeOf 37).run Tryz.prog x = .ok 7 x := fun x => by kernel_rfl
  have ha7 : ∀ x, (isAgg 37).run Tryz.prog x = .ok true x := fun x => by kernel_rfl
  have hv1 := Lib.hid fun W => within_any v 0 1000 W
  have hv2 := Lib.hid fun W => within_any den 1 1000000000000 W
  have hv3 := Lib.hid fun W => csmall_any lev 1000000000000 W (by decide)
  rw [within_iff.2 hR.v] at hv1
  rw [within_iff.2 hR.den] at hv2
  rw [show smallB lev 1000000000000 = true from within_iff.2 (by have := hR.lev; omega)] at hv3
  have hNm := Lib.hid fun W => isName_any (bs nm) W (by rw [bs_size]; omega)
  rw [bs_data, hnb] at hNm
  have hAs := Lib.hid fun W => checkAsk_any 1 ag W
  rw [askE_zero.2 ⟨.inr rfl, hR.ag.1, hR.ag.2⟩] at hAs
  clear hlen hw1 hw2 hnN hS ht hR hnb
  obtain ⟨q1, q2, q3, q4⟩ := mean_eq
  obtain ⟨l1, l2⟩ := certN_len 1 ag v den lev W
  have hW8 := hR'.out.n
  obtain ⟨N, hN⟩ : ∃ N, certN 1 ag v den lev W = N := ⟨_, rfl⟩
  have hN' := Lib.hid hN
  rw [hN] at hSp hNu l1 l2
  obtain ⟨m, hm⟩ : ∃ m, N.length = m := ⟨_, rfl⟩
  have hm' := Lib.hid hm
  obtain ⟨n, hn⟩ : ∃ n, m + 1 + 1 = n := ⟨_, rfl⟩
  simp only [List.length_cons, List.length_map, hm, hn] at hSp hNu
  have l2' := Lib.hid l2
  have hm3 : 3 ≤ m := by omega
  have hm12 : m ≤ 12 := by split at l2 <;> omega
  have hnI : ¬ (n : Int) < 2 := by omega
  have hn0 : (0 : Int) < (n : Int) := by omega
  have hn1 : (1 : Int) < (n : Int) := by omega
  have hn2 : (2 : Int) ≤ (n : Int) := by omega
  have hmn : n - 2 = m := by omega
  have hmI : ¬ (m : Int) < 3 := by omega
  have hmI0 : (0 : Int) < (m : Int) := by omega
  have hmI1 : (1 : Int) < (m : Int) := by omega
  have hmI2 : (2 : Int) < (m : Int) := by omega
  clear hN hm hn l1 l2 hW8 e13
  simp only [if_true] at hSp
  go_enter Tryz.func10, Tryz.ntmps10
  go_wp2_with (first | (go_at_call 31; refine (hSp.out _ (by go_grown)).mono ?_; rintro e w2 ⟨⟨A, c, rfl, hAt, hnc⟩, hb2⟩; (obtain ⟨b, o, rfl, hbs, hc0⟩ := hAt 0 _ rfl); (obtain ⟨b', o', e1, -, hc1⟩ := hAt 1 _ rfl); cases e1; (have y0 := hc0 0 _ rfl); (have y1 := hc1 0 _ rfl); (have hAt2 := Lib.hid (hAt.tail1 2)); simp only [Nat.add_zero, Nat.zero_mul, Nat.one_mul] at y0 y1; (have M0 := bk_keep hb2 (bk_new w (.cells #[.string (ByteArray.mk #[]), .int .i64 0, .int .i64 0, .int .i64 0, .int .i64 0, .int .i64 0, .slice none 0 0] 37 (0, 0)) rfl)); (have hs2 := bk_size M0); (have hbw2 := via (new_below w (.cells #[.string (ByteArray.mk #[]), .int .i64 0, .int .i64 0, .int .i64 0, .int .i64 0, .int .i64 0, .slice none 0 0] 37 (0, 0))) hb2); clear hAt hc0 hc1 hb2) | (go_at_call 32; refine (hNu.out _ m _ _ hbw2 (by have := hAt2.out; simpa using this) rfl (by omega)).mono ?_; rintro e w3 ⟨⟨A2, c2, rfl, hO3⟩, hb3⟩; (have z0 := cell_below y0 hb3); (have z1 := cell_below y1 hb3); (have M1 := bk_keep hb3 M0); (have hbw3 := via hbw2 hb3); (have hO3' := Lib.hid hO3); (have hbs3 := Nat.lt_of_lt_of_le hbs hb3.size); clear hO3 hb3 y0 y1 M0) | (refine wpList_store_block (by with_reducible rfl) (.tmp 7) (.tmp 40) 37 (by with_reducible rfl) w3.heap.size [.string (bs nm), .int .i64 0, .int .i64 0, .int .i64 0, .int .i64 0, .int .i64 0, .slice none 0 0] [.string (ByteArray.mk #[]), .int .i64 0, .int .i64 0, .int .i64 0, .int .i64 0, .int .i64 0, .slice none 0 0] 37 ?sp ?sq (hs7 _) ?sb rfl (by simp [Value.oneCell']) ?_))
  case sp => rfl
  case sq => rfl
  case sb => exact bk_new _ _ rfl
  intro w4 hblk4 hg4 hsz4
  have hs03 := bk_size M1
  have hb34 : Below w3.heap.size w3 w4 := grown_below (new_below _ _) hg4 fun b e => by cases e; exact Nat.le_refl _
  have x0 := cell_below z0 hb34
  have x1 := cell_below z1 hb34
  have M2 := bk_keep hb34 M1
  have hb4 := via hbw3 hb34
  have hL := Lib.hid (own_ints hO3'.out)
  have hL4 := Lib.hid ((own_ints hO3'.out).below hb34)
  have hNe : N = ag :: v :: den :: lev :: W := by rw [← hN'.out]; rfl
  subst hNe
  have hmc2 : m ≤ c2 := own_le hO3'.out
  have hmw : m - 1 - 3 = wn := by have := hm'.out; simp at this; omega
  obtain ⟨B2, o2, rfl, hB3, c0⟩ := zc_cell hL.out (k := 0) (by simp)
  obtain ⟨_, _, ee, -, c1⟩ := zc_cell hL.out (k := 1) (by simp)
  cases ee
  obtain ⟨_, _, ee, -, c2'⟩ := zc_cell hL.out (k := 2) (by simp)
  cases ee
  obtain ⟨_, _, ee, -, c3'⟩ := zc_cell hL.out (k := 3) (by simp)
  cases ee
  simp only [List.getD_cons_zero, List.getD_cons_succ, Nat.add_zero] at c0 c1 c2' c3'
  have e0 := cell_below c0 hb34
  have e1 := cell_below c1 hb34
  have e2 := cell_below c2' hb34
  have e3 := cell_below c3' hb34
  have hB2 := Nat.lt_of_lt_of_le hB3 hb34.size
  have hB2n : B2 ≠ w3.heap.size := by omega
  have hB2w : B2 ≠ w.heap.size := by have := (hO3'.out.lt B2 rfl).1; omega
  clear c0 c1 c2' c3'
  have F0 := bk7 M2
  have F4 := bk7 hblk4
  clear hg4 hsz4 hb34 M1 z0 z1 hbw2
  have hm4 : 4 ≤ m := by have := hm'.out; simp at this; omega
  have hc21 : ¬ c2 = 1 := by omega
  have hm1I : (1 : Int) ≤ (m : Int) := by omega
  go_wp2
  refine wp_region_any (by kernel_rfl) ?_
  refine any_last 8 _ rfl rfl (by kernel_rfl) (by kernel_rfl) (by kernel_rfl) (by kernel_rfl) ?_
  simp only [List.take_succ_cons, List.take_zero]
  apply any_st1 w 7 w3.heap.size (.cells #[.string (bs nm), .int .i64 0, .int .i64 0, .int .i64 0, .int .i64 0, .int .i64 0, .slice none 0 0] 37 (0, 0)) (.cells #[.string (bs nm), .int .i64 1, .int .i64 ag, .int .i64 0, .int .i64 0, .int .i64 0, .slice none 0 0] 37 (0, 0))
  case hB => kernel_rfl
  case hB' => kernel_rfl
  case hS => kernel_rfl
  case hN => kernel_rfl
  case hkd => kernel_rfl
  case hw => exact hb4
  case hb => exact hbw3.size
  case h4 => exact hblk4
  case hq =>
    intro u hu hgc
    have hB2u := Nat.lt_of_lt_of_le hB2 hu.2.1
    have G0 := (World.cell?_of_block (a := ⟨B2, o2, none⟩) (hu.2.2 B2 hB2 hB2n)).trans e0
    simp only [mixL, yieldsC, List.contains_cons, List.contains_nil, Nat.reduceAdd, Nat.reduceBEq, Nat.zero_add, Bool.or_false, Bool.or_true, Bool.false_or, Bool.true_or, Bool.false_eq_true, if_true, if_false, Bool.or_self, Nat.reduceEqDiff]
    repeat (go_big_quiet_step (fail))
    exact wpQuiet_nil rfl
  case hs4 =>
    intro o ho x hx hz
    simp only [List.getElem?_cons_succ, List.getElem?_cons_zero, Option.some.injEq] at ho
    subst ho
    exact ⟨_, run_at1 rfl rfl rfl (by kernel_rfl) rfl rfl hz, ((OnlyB.refl _ _).set _ _).set _ _, bk_here (bk_here hz _ rfl) _ rfl⟩
  intro x5 hx5 hz5
  refine oper_value (.slice (some ⟨B2, o2 + 1, none⟩) (m - 1) (c2 - 1)) ?_ ?_
  · kernel_rfl
  obtain ⟨m7, hm7⟩ : ∃ k, m - 1 = k := ⟨_, rfl⟩
  obtain ⟨c7, hc7⟩ : ∃ k, c2 - 1 = k := ⟨_, rfl⟩
  obtain ⟨o7, ho7⟩ : ∃ k, o2 + 1 = k := ⟨_, rfl⟩
  simp only [hm7, hc7, ho7]
  rw [hm7] at hmw
  have hbX := hx5.1
  have hblkX := hz5
  have hne5 : b ≠ w3.heap.size := by omega
  have hb4s : b < w4.heap.size := World.block_lt_of_cell? _ _ x1
  have x15 := (World.cell?_of_block (a := ⟨b, o + 1, none⟩) (hx5.2.2 b hb4s hne5)).trans x1
  have g0 := (World.cell?_of_block (a := ⟨B2, o2 + 1, none⟩) (hx5.2.2 B2 hB2 hB2n)).trans e1
  have g1 := (World.cell?_of_block (a := ⟨B2, o2 + 2, none⟩) (hx5.2.2 B2 hB2 hB2n)).trans e2
  have g2 := (World.cell?_of_block (a := ⟨B2, o2 + 3, none⟩) (hx5.2.2 B2 hB2 hB2n)).trans e3
  rw [ho7] at g0
  rw [show o2 + 2 = o7 + 1 by omega] at g1
  rw [show o2 + 3 = o7 + 2 by omega] at g2
  have hTl0 := at_kept (hL4.out.tail1 4) hx5.2.1 fun g e => by cases e; exact hx5.2.2 _ hB2 hB2n
  rw [show o2 + 4 * 1 = o7 + 3 by omega] at hTl0
  have hTl := Lib.hid hTl0
  replace hB2 := Nat.lt_of_lt_of_le hB2 hx5.2.1
  replace M2 := (hx5.2.2 _ (bk_size M2) (by omega)).trans M2
  have hm73 : 3 ≤ m7 := by omega
  replace hmI : ¬ (m7 : Int) < 3 := by omega
  replace hmI0 : (0 : Int) < (m7 : Int) := by omega
  replace hmI1 : (1 : Int) < (m7 : Int) := by omega
  replace hmI2 : (2 : Int) < (m7 : Int) := by omega
  have hm7I : (3 : Int) ≤ (m7 : Int) := by omega
  replace hmc2 : m7 ≤ c7 := by omega
  replace e0 := g0
  replace e1 := g1
  replace e2 := g2
  have hwn8 : wn ≤ 8 := by have := hR'.out.n; omega
  clear g0 g1 g2 hTl0 hx5 hz5 hL4 hL hblk4 x0 x1 e3 hm7 hc7 ho7 hb4s hbs3 F0 F4 hb4
  go_wp2
  refine wp_region_any (by kernel_rfl) ?_
  refine any_last 15 _ rfl rfl (by kernel_rfl) (by kernel_rfl) (by kernel_rfl) (by kernel_rfl) ?_
  simp only [List.take_succ_cons, List.take_zero]
  apply any_st1 w 13 w3.heap.size (.cells #[.string (bs nm), .int .i64 1, .int .i64 ag, .int .i64 0, .int .i64 0, .int .i64 0, .slice none 0 0] 37 (0, 0)) (.cells #[.string (bs nm), .int .i64 1, .int .i64 ag, .int .i64 v, .int .i64 0, .int .i64 0, .slice none 0 0] 37 (0, 0))
  case hB => kernel_rfl
  case hB' => kernel_rfl
  case hS => kernel_rfl
  case hN => kernel_rfl
  case hkd => kernel_rfl
  case hw => exact hbX
  case hb => exact hbw3.size
  case h4 => exact hblkX
  case hq =>
    intro u hu hgc
    have hB2u := Nat.lt_of_lt_of_le hB2 hu.2.1
    have G0 := (World.cell?_of_block (a := ⟨B2, o7, none⟩) (hu.2.2 B2 hB2 hB2n)).trans e0
    have G1 := (World.cell?_of_block (a := ⟨B2, o7 + 1, none⟩) (hu.2.2 B2 hB2 hB2n)).trans e1
    have G2 := (World.cell?_of_block (a := ⟨B2, o7 + 2, none⟩) (hu.2.2 B2 hB2 hB2n)).trans e2
    simp only [mixL, yieldsC, List.contains_cons, List.contains_nil, Nat.reduceAdd, Nat.reduceBEq, Nat.zero_add, Bool.or_false, Bool.or_true, Bool.false_or, Bool.true_or, Bool.false_eq_true, if_true, if_false, Bool.or_self, Nat.reduceEqDiff]
    repeat (go_big_quiet_step (fail))
    exact wpQuiet_nil rfl
  case hs4 =>
    intro o ho x hx hz
    simp only [List.getElem?_cons_succ, List.getElem?_cons_zero, Option.some.injEq] at ho
    subst ho
    exact ⟨_, run_at3 rfl (by kernel_rfl) rfl rfl hz, (OnlyB.refl _ _).set _ _, bk_here hz _ rfl⟩
  intro x hx hz
  refine oper_skip (run_at4 rfl rfl rfl rfl (by kernel_rfl) rfl rfl hz) ?_
  obtain ⟨A9, hA9⟩ : ∃ A : Option Addr, (if c7 = 3 then some ⟨B2, o7, none⟩ else some ⟨B2, o7 + 3, none⟩) = A := ⟨_, rfl⟩
  obtain ⟨X9, hX9⟩ : ∃ X, ((x.setCell ⟨w3.heap.size, 4, none⟩ (.int .i64 den)).setCell ⟨w3.heap.size, 5, none⟩ (.int .i64 lev)).setCell ⟨w3.heap.size, 6, none⟩ (.slice A9 wn (c7 - 3)) = X := ⟨_, rfl⟩
  have hO9 : OnlyB w3.heap.size x X9 := by rw [← hX9]; exact (((OnlyB.refl _ _).set _ _).set _ _).set _ _
  have Z9 : X9.heap[w3.heap.size]? = some (.cells #[.string (bs nm), .int .i64 1, .int .i64 ag, .int .i64 v, .int .i64 den, .int .i64 lev, .slice A9 wn (c7 - 3)] 37 (0, 0)) := by rw [← hX9]; exact bk_here (bk_here (bk_here hz _ rfl) _ rfl) _ rfl
  have hz9 : x.heap.size = X9.heap.size := by rw [← hX9]; simp
  simp only [hmw, hA9]
  rw [hX9]
  have hk9 : ∀ k, k < x5.heap.size → k ≠ w3.heap.size → X9.heap[k]? = x5.heap[k]? := fun k h1 h2 => (hO9.other k h2).trans (hx.2.2 k h1 h2)
  have hb9 : Below w.heap.size w X9 := hx.1.trans (hO9.below _ hbw3.size)
  have M9 := (hk9 w.heap.size (bk_size M2) (by omega)).trans M2
  have hL9 := Lib.hid (show At 1 Zc X9 A9 W from by
    rw [← hA9]
    split
    · have h0 : wn = 0 := by omega
      rw [List.eq_nil_of_length_eq_zero (hwn.trans h0)]
      exact fun k x hx => by simp at hx
    · exact at_kept (hTl.out) (by have := hx.2.1; omega) fun g e => by cases e; exact hk9 _ hB2 hB2n)
  have F9 := bk7 Z9
  have J0 := bk7 M9
  clear hX9 hk9 hO9 hz9 hx hz hTl e0 e1 e2 hblkX M2
  go_wp2_with (first
    | (go_at_call 33; first | (refine Calls.mono (by with_reducible exact hv1.out _) ?_; rintro e w' ⟨rfl, rfl⟩) | (refine Calls.mono (by with_reducible exact hv2.out _) ?_; rintro e w' ⟨rfl, rfl⟩))
    | (go_at_call 34; refine (hv3.out _).mono ?_; rintro e w' ⟨rfl, rfl⟩))
  go_loopw [8, 105] (fun r i wr => ∃ j : Nat, j ≤ wn ∧ r = .bool true ∧ i = .int .i64 j ∧ wr = X9) (fun _ i _ => wn - (intOf i).toNat)
  case atStart => exact ⟨0, Nat.zero_le _, rfl, rfl, rfl⟩
  case round =>
    obtain ⟨j, hj, rfl, rfl, rfl⟩ := hrel
    by_cases hlt : j < wn
    · have hjI : (j : Int) < (wn : Int) := by omega
      obtain ⟨b3, o3, rfl, hs3, c4⟩ := zc_cell hL9.out (k := j) (by rw [hwn]; exact hlt)
      obtain ⟨y, hy⟩ : ∃ y, W.getD j 0 = y := ⟨_, rfl⟩
      have hyb : 0 ≤ y ∧ y ≤ 1000000000000 := by
        rw [← hy, List.getD_eq_getElem?_getD, List.getElem?_eq_getElem (by omega)]
        exact hR'.out.wt _ (List.getElem_mem _)
      rw [hy] at c4
      have hvy := Lib.hid fun W => within_any y 0 1000000000000 W
      rw [within_iff.2 hyb] at hvy
      go_wp2_with (go_at_call 33; refine (hvy.out _).mono ?_; rintro e w' ⟨rfl, rfl⟩)
      go_roundw
      case rel => exact ⟨j + 1, by omega, by first | rfl | trivial, by go_num, by first | rfl | trivial⟩
      case measure => first | (simp [intOf]; done) | (simp [intOf]; omega)
    · obtain rfl : wn = j := by omega
      have hW8 := hR'.out.n
      have hwn8 : (wn : Int) ≤ 8 := by omega
      have hwn8b : decide ((wn : Int) ≤ 8) = true := by simpa using hwn8
      go_wp2
      refine region_in w 15 (by kernel_rfl) (by kernel_rfl) hb9 ?_
      intro hgc hbx
      simp only [List.take_succ_cons, List.take_zero, List.drop_succ_cons, List.drop_zero]
      repeat (go_big_quiet_step (first
        | (go_at_call 29; with_reducible exact Grew.call (hNm.out _))
        | (go_at_call 37; with_reducible exact Grew.call (hAs.out _))
        | (go_at_call 36; with_reducible exact Grew.call_same (unless_any _ _ _))))
      refine wpQuiet_nil ?_
      intro wb hb_wb hw_wb hs_wb
      clear hgc hbx
      have Q9 := bk_keep hb_wb Z9
      have P9 := bk_keep hb_wb M9
      have hLb := Lib.hid (hL9.out.below hb_wb)
      have hbb := via hb9 hb_wb
      clear Z9 M9 F9 J0
      go_wp2_with (first
        | (go_at_call 35; refine (first4 _ _ _ _ _).mono ?_; rintro e w' ⟨rfl, rfl⟩)
        | (refine wpList_load_block (by with_reducible rfl) (.tmp 7) 37 (by with_reducible rfl) w3.heap.size [.string (bs nm), .int .i64 1, .int .i64 ag, .int .i64 v, .int .i64 den, .int .i64 lev, .slice A9 wn (c7 - 3)] 37 ?lp (ha7 _) (hs7 _) ?lb ?_)
        | (refine wpList_store_block (by with_reducible rfl) (.tmp 2) (.tmp 136) 37 (by with_reducible rfl) w.heap.size [.string (bs nm), .int .i64 1, .int .i64 ag, .int .i64 v, .int .i64 den, .int .i64 lev, .slice A9 wn (c7 - 3)] [.string (ByteArray.mk #[]), .int .i64 0, .int .i64 0, .int .i64 0, .int .i64 0, .int .i64 0, .slice none 0 0] 37 ?sp2 ?sq2 (hs7 _) ?sb2 rfl (by simp [Value.oneCell']) ?_))
      case lp => rfl
      case lb => exact bk_alloc Q9 _
      all_goals try (case sp2 => rfl)
      all_goals try (case sq2 => rfl)
      case sb2 => exact bk_alloc P9 _
      intro w9 hblk9 hg9 hsz9
      have hb9f : Below w.heap.size w w9 := grown_below (via hbb (new_below _ _)) hg9 fun b e => by have := Option.some.inj e; omega
      have hLf := Lib.hid (at_grown (hLb.out.below (new_below _ _)) hg9 fun g e => by
        rw [← hA9] at e
        split at e <;> (cases e; intro h; exact hB2w (Option.some.inj h)))
      go_wp2
      refine bodyPost_ret (v := .tuple #[.agg #[.string (bs nm), .int .i64 1, .int .i64 ag, .int .i64 v, .int .i64 den, .int .i64 lev, .slice A9 wn (c7 - 3)], .int .i64 0]) ?_ rfl ⟨⟨A9, c7 - 3, rfl, hLf.out⟩, hb9f⟩
      exact results_cell2t (p := 2) (u := 3) (ad := ⟨w.heap.size, 0, none⟩) (v := .agg #[.string (bs nm), .int .i64 1, .int .i64 ag, .int .i64 v, .int .i64 den, .int .i64 lev, .slice A9 wn (c7 - 3)]) rfl (by rfl) (run_loadBlock (T := 37) (cs := [.string (bs nm), .int .i64 1, .int .i64 ag, .int .i64 v, .int .i64 den, .int .i64 lev, .slice A9 wn (c7 - 3)]) (ha7 _) (hs7 _) hblk9)
end Go.Proofs

set_option linter.unusedSimpArgs false
set_option linter.unusedVariables false
namespace Go.Proofs
open Go.RowKit
set_option linter.unusedVariables false
attribute [local go_sem] Oper.semAt_some
/-! strings.Lines over lines that end. -/
def txLn (l : List (List UInt8)) : List UInt8 := l.flatMap fun x => x ++ [10]
def fl (x : List UInt8) : ByteArray := bs (x ++ [10])
def encS (x : ByteArray) : Array Value := #[.string x]
theorem ix_line : ∀ (d t : List UInt8), (∀ c ∈ d, c ≠ 10) → Lib.indexByte (d ++ 10 :: t) 10 = (d.length : Int)
  | [], t, _ => by simp [Lib.indexByte]
  | c :: d, t, h => by
    have ih := ix_line d t fun x hx => h x (by simp [hx])
    have hc := h c (by simp)
    rw [List.cons_append]
    unfold Lib.indexByte
    rw [if_neg (by simpa using hc), ih, if_neg (by first | (simp; done) | (simp; omega))]
    simp
theorem bs_ext (l : List UInt8) (i j : Nat) : (bs l).extract i j = bs ((l.take j).drop i) := by
  unfold bs
  apply ByteArray.ext
  rw [ByteArray.data_extract]
  apply Array.ext'
  rw [Array.toList_extract]
  simp [List.extract_eq_take_drop, List.drop_take]
theorem line_cut (d t : List UInt8) : (bs (d ++ 10 :: t)).extract 0 (d.length + 1) = bs (d ++ [10]) ∧ (bs (d ++ 10 :: t)).extract (d.length + 1) (bs (d ++ 10 :: t)).size = bs t ∧ (bs (d ++ 10 :: t)).size = d.length + 1 + t.length := by
  have e : d ++ 10 :: t = (d ++ [10]) ++ t := by simp
  have hs : (bs (d ++ 10 :: t)).size = d.length + 1 + t.length := by rw [bs_size]; simp; omega
  refine ⟨?_, ?_, hs⟩
  · rw [bs_ext, e, List.drop_zero, List.take_append_of_le_length (by simp), List.take_of_length_le (by simp)]
  · rw [bs_ext, hs, List.take_of_length_le (by simp; omega), e, List.drop_append_of_le_length (by simp), List.drop_of_length_le (by simp)]
    simp
theorem run_store_str {P : Program} {f : Operand → Value} {o : Oper} {t : TypeId} {p q : Operand} {b off : Nat} {s : ByteArray} {u : Value} {x : World} (ho : o.op = .store t p q) (hsz : Sem.run P (sizeOf t) x = .ok 1 x) (hp : f p = .pointer (some ⟨b, off, none⟩)) (hq : f q = .string s) (hc : x.cell? ⟨b, off, none⟩ = some u) (hf : x.frozen? ⟨b, off, none⟩ = false) :
    (execOp f o).run P x = .ok .skip (x.setCell ⟨b, off, none⟩ (.string s)) := by
  unfold execOp
  rw [ho]
  simp [go_sem, hp, hq, hc, hf, hsz]
structure LnI (B2 : Nat) (LL : List (List UInt8)) (M : Nat → Prop) (w : World) (J : List ByteArray → (Nat → Prop) → World → Prop) (m : Nat) (dn rest : List (List UInt8)) (T : Nat → Prop) (f : Nat) (wr : World) : Prop where
  all : dn ++ rest = LL
  len : rest.length = f
  at2 : wr.heap[B2]? = some (.cells #[.string (bs (txLn rest))] 9 (0, 0))
  jj : J (dn.map fl) T wr
  tt : ∀ r, T r → m ≤ r ∧ r < wr.heap.size
  lie : Lie (fun k => M k ∨ k = B2) w wr
  sz : m ≤ wr.heap.size
set_option maxRecDepth 100000 in
set_option maxHeartbeats 4000000 in
theorem lines_stops (n : Nat) (LL : List (List UInt8)) (h10 : ∀ d ∈ LL, ∀ c ∈ d, c ≠ 10) (hl : (txLn LL).length ≤ 100000) (B2 : Nat) (M : Nat → Prop) (w : World)
    (h2 : w.heap[B2]? = some (.cells #[.string (bs (txLn LL))] 9 (0, 0))) (hM2 : ¬ M B2) (hMw : ∀ k, M k → k < w.heap.size) :
    StopsO Fence.wide n Tryz.prog 100 #[.pointer (some ⟨B2, 0, none⟩)] encS (fun _ _ => False) (fun k => k = B2) M (fun pre x W => pre ++ [x] <+: LL.map fl)
      (fun xs => xs = LL.map fl) (fun pre => pre <+: LL.map fl) LL.length w := by
  intro l J Jx W hW hlw hlW hJ hJx hY hJ0
  have hws := hW.size
  have hB2 := bk_size h2
  obtain ⟨SX, hSX⟩ : ∃ SX : Nat → World → Prop, SX = fun f wr => ∃ dn rest T, LnI B2 LL M w J W.heap.size dn rest T f wr := ⟨_, rfl⟩
  have hSX1 : Hid (∀ f wr, SX f wr → ∃ dn rest T, LnI B2 LL M w J W.heap.size dn rest T f wr) := by rw [hSX]; exact fun _ _ h => h
  have hSX2 : Hid (∀ f wr, (∃ dn rest T, LnI B2 LL M w J W.heap.size dn rest T f wr) → SX f wr) := by rw [hSX]; exact fun _ _ h => h
  have hSX0 : Hid (SX LL.length W) := hSX2.out _ _ ⟨[], LL, fun _ => False, rfl, rfl, (by rw [hW.block B2 hB2]; exact h2), hJ0, fun r h => h.elim, Lie.of_below _ hW, Nat.le_refl _⟩
  have hY' := Lib.hid hY
  have hJ' := Lib.hid hJ
  have hMl := Lib.hid hMw
  have hM2' := Lib.hid hM2
  have h10' := Lib.hid h10
  have hl' := Lib.hid hl
  have hI := Lib.hid fun s W => Tryz.strings_IndexByte s 10 W
  clear hSX hY hJ hJx hJ0 hMw hM2 h10 hl
  refine callsIn_of_wp Tryz.func100 rfl trivial ?_
  simp only [Tryz.ntmps100, List.size_toArray, List.length_cons, List.length_nil, Nat.reduceAdd, Nat.reduceSub, Array.replicate_succ, Array.replicate_zero, List.push_toArray, List.append_toArray, List.nil_append, List.cons_append]
  gi_wp2_with fail
  gi_loopw [3] (fun _ wr => ∃ f, SX f wr) (fun _ wr => leastOf fun f => SX f wr)
  case atStart => exact ⟨_, hSX0.out⟩
  case round =>
    clear hSX0
    obtain ⟨f, hf⟩ : ∃ f, (leastOf fun f => SX f wr) = f := ⟨_, rfl⟩
    have hls := (leastOf_spec hrel).1
    rw [hf] at hls
    have hf' := Lib.hid hf
    clear hf hrel
    obtain ⟨dn, rest, T, hS⟩ := hSX1.out _ _ hls
    clear hls
    have c2 := bk1 hS.at2
    have s2 := bk_size hS.at2
    have hSh := Lib.hid hS
    cases hrest : rest with
    | nil =>
      subst hrest
      have hall : dn = LL := by have := hS.all; simpa using this
      have hz : txLn [] = [] := rfl
      rw [hz] at c2
      clear hS
      gi_wp2
      go_end0
      exact ⟨⟨_, rfl⟩, .inl ⟨_, T, by rw [← hall], hSh.out.jj⟩⟩
    | cons d rs =>
      subst hrest
      have hd10 := h10'.out d (by rw [← hS.all]; simp)
      have htx : txLn (d :: rs) = d ++ 10 :: txLn rs := by simp [txLn]
      obtain ⟨g1, g2, g3⟩ := line_cut d (txLn rs)
      have hix := ix_line d (txLn rs) hd10
      rw [htx] at c2
      have hI1 := Lib.hid (hI.out (bs (d ++ 10 :: txLn rs)) wr)
      rw [bs_data, show (10 : Int).toNat.toUInt8 = 10 from rfl, hix] at hI1
      have hbig : (bs (d ++ 10 :: txLn rs)).size ≤ 100000 := by
        have h := hl'.out
        rw [← hS.all] at h
        unfold txLn at h
        rw [List.flatMap_append, List.length_append] at h
        rw [bs_size, ← htx]
        unfold txLn
        omega
      obtain ⟨S, eS⟩ : ∃ S, bs (d ++ 10 :: txLn rs) = S := ⟨_, rfl⟩
      obtain ⟨H, eH⟩ : ∃ S, bs (d ++ [10]) = S := ⟨_, rfl⟩
      obtain ⟨R, eR⟩ : ∃ S, bs (txLn rs) = S := ⟨_, rfl⟩
      obtain ⟨k, ek⟩ : ∃ k, d.length = k := ⟨_, rfl⟩
      have M2 := hS.at2
      rw [htx] at M2
      rw [eS] at c2 hI1 hbig g1 g2 g3 M2
      rw [eH] at g1
      rw [eR] at g2
      rw [ek] at hI1 g1 g2 g3
      have eH' := Lib.hid eH
      have eR' := Lib.hid eR
      have hk0 : (0 : Int) < (S.size : Int) := by omega
      have hk0n : 0 < S.size := by omega
      have hkw : IntKind.i64.wrap ((k : Int) + 1) = (k : Int) + 1 := IntWalk.i64_in _ (by omega)
      have hk1 : (k : Int) + 1 ≤ (S.size : Int) := by omega
      clear hS hd10 htx hix hbig eS eH eR ek g3
      gi_wp2_with fail
      refine ⟨trivial, fun h => (by cases h), (callsIn_wide.2 hI1.out).mono ?_⟩
      rintro e w4 ⟨rfl, rfl⟩
      gi_wp2_with fail
      refine wpIn_wide.2 ?_
      refine wp_region_any (by kernel_rfl) ?_
      refine any_lastR 9 _ rfl rfl (by kernel_rfl) (by kernel_rfl) (by kernel_rfl) (by kernel_rfl) ?_
      simp only [List.take_succ_cons, List.take_zero]
      apply any_q w4
      case hB => kernel_rfl
      case hB' => kernel_rfl
      case hS => kernel_rfl
      case hN => kernel_rfl
      case hw => exact Below.refl _ _
      case hq =>
        intro u hu hgc
        have C2 := bk1 (bk_keep hu M2)
        simp only [mixL, yieldsC, List.contains_cons, List.contains_nil, Nat.reduceAdd, Nat.reduceBEq, Nat.zero_add, Bool.or_false, Bool.or_true, Bool.false_or, Bool.true_or, Bool.false_eq_true, if_true, if_false, Bool.or_self, Nat.reduceEqDiff]
        repeat (go_big_quiet_step (fail))
        exact wpQuiet_nil rfl
      intro x hx
      have Mx := bk_keep hx M2
      have Cx := bk1 Mx
      refine oper_skip (x := x.setCell ⟨B2, 0, none⟩ (.string R)) (run_store_str rfl (by kernel_rfl) rfl ?q Cx.1 Cx.2.1) ?_
      case q => rfl
      have hxs := hx.size
      have hg1 : w4.grownBy x none := grown_below_none hx
      have hOX : OnlyB B2 x (x.setCell ⟨B2, 0, none⟩ (.string R)) := (OnlyB.refl _ _).set _ _
      have hg2 : x.grownBy (x.setCell ⟨B2, 0, none⟩ (.string R)) (some B2) := ⟨rfl, rfl, rfl, by simp, fun j _ hj => hOX.other j fun h => hj (by rw [h])⟩
      have MX := bk_here (o := 0) Mx (.string R) rfl
      have hsX : (x.setCell ⟨B2, 0, none⟩ (.string R)).heap.size = x.heap.size := setCell_size _ _ _
      obtain ⟨X, eX⟩ : ∃ X, x.setCell ⟨B2, 0, none⟩ (.string R) = X := ⟨_, rfl⟩
      rw [eX] at hOX hg2 MX hsX ⊢
      have hTB : ¬ T B2 := fun h => by have := (hSh.out.tt _ h).1; omega
      have hJX : J (dn.map fl) T X := hJ'.out _ _ _ _ (some B2) (hJ'.out _ _ _ _ none hSh.out.jj hg1 (fun r e => by cases e)) hg2 (fun r e => by cases e; exact ⟨.inr rfl, hTB, fun _ _ h => h⟩)
      have httX : ∀ r, T r → W.heap.size ≤ r ∧ r < X.heap.size := fun r h => ⟨(hSh.out.tt r h).1, by have := (hSh.out.tt r h).2; omega⟩
      have hLX : Lie (fun k => M k ∨ k = B2) w X := hSh.out.lie.trans ((Lie.of_below _ hx).trans ⟨by omega, fun j hj hn => hOX.other j fun h => hn (.inr h)⟩)
      obtain ⟨fn, tm, asg, bod, hy, hR⟩ := hY'.out (dn.map fl) T (fl d) X hJX httX (fun _ _ r h => h.elim) (by
        rw [List.length_map, ← hSh.out.all]
        simp) (by
        rw [← hSh.out.all, List.map_append]
        exact ⟨rs.map fl, by simp⟩)
      have hy' : (Instr.yield l #[.string H]).run Tryz.prog X = .ok (.round l fn tm asg bod) X := by rw [← eH'.out]; exact hy
      have hR' := Lib.hid hR
      have hLX' := Lib.hid hLX
      have httX' := Lib.hid httX
      have hall' := Lib.hid (show (dn ++ [d]) ++ rs = LL by rw [List.append_assoc]; exact hSh.out.all)
      have hszX : W.heap.size ≤ X.heap.size := by have := hSh.out.sz; omega
      clear hy hR hLX httX hJX hg1 hg2 hOX c2 M2 g1 g2 hk0 hk0n hkw hk1 hx Mx Cx hxs eX hsX hI1
      have CX := bk1 MX
      gi_wp2_with fail
      refine ⟨fun h => (by cases h), hR'.out.mono ?_⟩
      rintro e' w5 ⟨T', t1, t2, hli, (⟨rfl, hJ4⟩ | ⟨rfl, hJ4⟩)⟩
      · have hB5 : w5.heap[B2]? = some (.cells #[.string (bs (txLn rs))] 9 (0, 0)) := by
          rw [hli.same B2 (bk_size MX) (by
            rintro (h | h | h)
            · exact hM2'.out h
            · exact hTB h
            · omega), eR'.out]
          exact MX
        have hnx : LnI B2 LL M w J W.heap.size (dn ++ [d]) rs T' rs.length w5 := by
          refine ⟨hall'.out, rfl, hB5, by rw [List.map_append]; exact hJ4, fun r hr => ⟨?_, t2 r hr⟩, ?_, Nat.le_trans hszX hli.size⟩
          · rcases t1 r hr with h | h
            · exact (httX'.out r h).1
            · omega
          · refine ⟨Nat.le_trans hLX'.out.size hli.size, fun j hj hn => (hli.same j (Nat.lt_of_lt_of_le hj hLX'.out.size) ?_).trans (hLX'.out.same j hj hn)⟩
            rintro (h | h | h)
            · exact hn (.inl h)
            · have := (httX'.out j h).1; omega
            · omega
        have hnx' : Hid (SX rs.length w5) := hSX2.out _ _ ⟨_, _, _, hnx⟩
        have hlen' := Lib.hid hSh.out.len
        clear hnx hJ4 hli hB5
        gi_wp2_with fail
        refine ⟨⟨_, hnx'.out⟩, ?_⟩
        have h5 := hf'.out
        rw [h5, ← hlen'.out]
        exact Nat.lt_of_le_of_lt ((leastOf_spec (p := fun f => SX f w5) ⟨_, hnx'.out⟩).2 _ hnx'.out) (by simp)
      · have hJ5' := Lib.hid hJ4
        clear hJ4 hli
        gi_wp2
        refine bodyPost_ret (results_none rfl _ _ _) rfl ?_
        exact ⟨⟨_, rfl⟩, .inr ⟨_, _, ⟨rs.map fl, by rw [← hall'.out]; simp⟩, hJ5'.out⟩⟩
end Go.Proofs

set_option linter.unusedSimpArgs false
set_option linter.unusedVariables false
namespace Go.Proofs
open Go.RowKit
set_option linter.unusedVariables false
/-! A builder of texts: WriteString. -/
theorem infoBd : (Tryz.prog.info? 93).map (·.size) = some 2 := by kernel_rfl
theorem liesBd : liesAt Tryz.prog Tryz.prog.depth 93 (2 / Tryz.prog.cellsOf 93) 0 93 1 = true := by kernel_rfl
theorem infoBy : (Tryz.prog.info? 5).map (fun i => (i.zero, i.size, i.bytes)) = some (some (.int .u8 0), 1, 1) := by kernel_rfl
theorem ptrBd : Tryz.prog.underlying 90 = some (.pointer 93) := by kernel_rfl
theorem unsBd : Tryz.prog.underlying 137 = some .unsafePointer := by kernel_rfl
set_option maxRecDepth 100000 in
set_option maxHeartbeats 1000000 in
theorem check_used (b : Nat) (w : World) (h0 : w.cell? ⟨b, 0, none⟩ = some (.pointer (some ⟨b, 0, none⟩))) :
    Calls Tryz.prog 67 #[.pointer (some ⟨b, 0, none⟩)] w fun e w' => e = .returned (.tuple #[]) ∧ w' = w := by
  obtain ⟨j, hj, _⟩ := Option.map_eq_some_iff.1 infoBd
  have hne : (binOp .neq 90 (.pointer (some ⟨b, 0, none⟩)) (.pointer (some ⟨b, 0, none⟩))).run Tryz.prog w = .ok (.bool false) w := Lib.run_neq_ptr_same _ _ ptrBd hj
  have hnl : (binOp .eql 90 (.pointer (some ⟨b, 0, none⟩)) (.pointer none)).run Tryz.prog w = .ok (.bool false) w := by kernel_rfl
  go_enter Tryz.func67, Tryz.ntmps67
  go_wp2
  go_end0
  exact ⟨rfl, rfl⟩
theorem extNo : ∃ fn, Tryz.prog.funcs[99]? = some fn ∧ (fn.name == "runtime.NumGoroutine") = false ∧ fn.body.isNone = true ∧ Extern.findNext fn = none ∧ Extern.find fn = some Extern.AbiNoEscape.same := ⟨_, Tryz.func99, by kernel_rfl, by kernel_rfl, by kernel_rfl, by kernel_rfl⟩
set_option maxRecDepth 100000 in
set_option maxHeartbeats 1000000 in
theorem check_fresh (b : Nat) (w : World) (h0 : w.cell? ⟨b, 0, none⟩ = some (.pointer none)) (hsh : w.shape? b = some (93, 2)) (hfz : w.frozen? ⟨b, 0, none⟩ = false) :
    Calls Tryz.prog 67 #[.pointer (some ⟨b, 0, none⟩)] w fun e w' => e = .returned (.tuple #[]) ∧ w' = w.setCell ⟨b, 0, none⟩ (.pointer (some ⟨b, 0, none⟩)) := by
  obtain ⟨j, hj, hjs⟩ := Option.map_eq_some_iff.1 infoBd
  have c1 : (convert 90 137 (.pointer (some ⟨b, 0, none⟩))).run Tryz.prog w = .ok (.pointer (some ⟨b, 0, none⟩)) w := Lib.run_to_unsafe w ⟨b, 0, none⟩ ptrBd unsBd hj (by rw [hjs]; decide) hsh (Nat.zero_lt_succ 1)
  have c2 : (convert 137 90 (.pointer (some ⟨b, 0, none⟩))).run Tryz.prog w = .ok (.pointer (some ⟨b, 0, none⟩)) w := Lib.run_from_unsafe w ⟨b, 0, none⟩ unsBd ptrBd hj hsh liesBd
  have hnl : (binOp .eql 90 (.pointer none) (.pointer none)).run Tryz.prog w = .ok (.bool true) w := by kernel_rfl
  have c3 : (callFunc 99 #[.pointer (some ⟨b, 0, none⟩)]).run Tryz.prog w = .ok (.value (.pointer (some ⟨b, 0, none⟩))) w := by
    obtain ⟨fn, e1, e2, e3, e4, e5⟩ := extNo
    rw [run_callFunc_extern e1 e2 e3 e4 e5]
    rfl
  go_enter Tryz.func67, Tryz.ntmps67
  go_wp2
  go_end0
  exact ⟨rfl, rfl⟩
set_option maxRecDepth 100000 in
set_option maxHeartbeats 2000000 in
/-- WriteString: the text's bytes come behind. -/
theorem write_any (B b : Nat) (vs : List Value) (s : ByteArray) (w : World) (h : Lib.IsBuilder 93 5 B b vs w) (hlen : vs.length + s.size ≤ 1000000) (hBw : B ≤ w.heap.size) :
    Calls Tryz.prog 41 #[.pointer (some ⟨b, 0, none⟩), .string s] w fun e w' => e = .returned (.tuple #[.int .i64 s.size, .nilIface]) ∧ Lib.IsBuilder 93 5 B b (vs ++ Lib.strCells s) w' ∧ Below B w w' := by
  obtain ⟨i0, hi, hz0, hz1, hz2⟩ := info_parts infoBy
  have hck : Calls Tryz.prog 67 #[.pointer (some ⟨b, 0, none⟩)] w fun e w' => e = .returned (.tuple #[]) ∧ Lib.BuilderAt 93 5 B b (.pointer (some ⟨b, 0, none⟩)) vs w' ∧ Below B w w' := by
    rcases h with h | h
    · refine (check_fresh b w h.cell0 h.shape h.frozen0).mono ?_
      rintro e w' ⟨rfl, rfl⟩
      exact ⟨rfl, h.used _, (Below.refl B w).setCell (p := ⟨b, 0, none⟩) h.1 _⟩
    · refine (check_used b w h.cell0).mono ?_
      rintro e w' ⟨rfl, rfl⟩
      exact ⟨rfl, h, Below.refl B _⟩
  clear h
  go_enter Tryz.func41, Tryz.ntmps41
  go_wp2_with (go_at_call 67; refine hck.mono ?_)
  rintro e w1 ⟨rfl, ⟨hB, v, hbk, hown, hne⟩, hb1⟩
  have D1 := bk2 hbk
  go_wp2_with (at_builtin; refine Lib.wpList_append_own_string _ rfl _ _ 91 9 rfl B 5 i0 (by kernel_rfl) (by kernel_rfl) hi hz0 hz1 hz2 _ _ _ rfl hown s rfl ?c3 ?c4 ?c5 ?_)
  case c3 => unfold maxLen; omega
  case c4 => omega
  case c5 => have := hb1.size; omega
  intro v' w2 hown' hg2 _
  have hb2 := bk_grown hg2 hbk hne.symm
  have D2 := bk2 hb2
  obtain ⟨ao, n', cap, rfl⟩ : ∃ ao n' cap, v' = .slice ao n' cap := by
    rcases hown'.2 with ⟨hv, _⟩ | ⟨g, cap, cur, hv, _⟩
    · exact ⟨_, _, _, hv⟩
    · exact ⟨_, _, _, hv⟩
  clear D1
  go_wp2
  go_ret2
  refine ⟨rfl, .inr ?_, ?_⟩
  · exact Lib.BuilderAt.put (T := 93) (e := 5) hB hb2 (bs' := vs ++ Lib.strCells s) (by simpa [Lib.strCells_length] using hown') (by decide)
  · exact (hb1.grown hg2 (by have := hb1.size; omega) (fun k hk => (hown.lt k hk).1)).setCell (p := ⟨b, 1, none⟩) hB _
end Go.Proofs
