import Derived.Test.YtjfdjjekonkgjaaZf
import Derived.Test.YtjfdjjekonkgjaaBk2
import Derived.Deep.RegionHeld3
set_option linter.unusedSimpArgs false
set_option linter.unusedVariables false
namespace Go.Proofs
open Go.RowKit


set_option maxRecDepth 100000 in
set_option maxHeartbeats 2000000 in
theorem refVolumeTo_any (s : ByteArray) (bung dip : Int) (A : Option Addr) (ss : List St) (c : Nat) (w : World) (hR : RightC bung ss) (hd : 0 ≤ dip) (hd2 : dip ≤ 2 * bung) (hat : At 3 St.cs w A ss) :
    Calls Try.prog 25 #[.agg #[.string s, .int .i64 bung, .slice A ss.length c], .int .i64 dip] w fun e w' =>
      e = .returned (.agg #[.int .i64 (toV bung dip ss).1, .int .i64 (toV bung dip ss).2]) ∧ Below w.heap.size w w' := by
  obtain ⟨n, hn⟩ : ∃ n, ss.length = n + 1 := ⟨ss.length - 1, by have := hR.n; omega⟩
  have hn' := Lib.hid hn
  have hRn := hR.n
  have hRb := hR.b
  have hbd := Lib.hid (sumTo_bd bung dip ss hR hd hd2)
  have hR' := Lib.hid hR
  have hat' := Lib.hid hat
  have h0l : 0 < ss.length := by omega
  have hx : ss[0]? = some ss[0] := List.getElem?_eq_getElem h0l
  obtain ⟨b, o, hA, hbl, -⟩ := hat 0 _ hx
  subst hA
  rw [hn] at hRn ⊢
  obtain ⟨hn1, hn2⟩ := hRn
  clear hn hx h0l hR hat
  obtain ⟨T, hT⟩ : ∃ T, toV bung dip ss = T := ⟨_, rfl⟩
  rw [hT]
  have hT' := Lib.hid hT
  clear hT
  obtain ⟨T1, T2⟩ := T
  dsimp only
  go_enter Try.func25, Try.ntmps25
  go_wp2_with fail
  go_loopw [5, 6, 7] (fun lo hi i wr => ∃ k j : Nat, k ≤ n ∧ i = .int .i64 j ∧ Hid (j = k + 1) ∧ ∃ S1 S2 : Int, Hid (sumTo bung dip ss k = (S1, S2)) ∧ lo = .int .i64 S1 ∧ hi = .int .i64 S2 ∧ Below w.heap.size w wr ∧
    wr.heap[w.heap.size]? = some (.cells #[.string s, .int .i64 bung, .slice (some ⟨b, o, none⟩) (n + 1) c] 34 (0, 0)) ∧ wr.heap[w.heap.size + 1]? = some (.cells #[.int .i64 0, .int .i64 0] 24 (0, 0))) (fun _ _ i _ => n + 1 - (intOf i).toNat)
  case atStart =>
    exact ⟨0, 1, Nat.zero_le _, rfl, rfl, 0, 0, rfl, rfl, rfl, by go_grown, by (repeat (first | assumption | exact bk_new _ _ (by simp) | refine bk_drew ?_ | refine bk_alloc ?_ _ | refine bk_set ?_ (by simp <;> omega) _)), by (repeat (first | assumption | exact bk_new _ _ (by simp) | refine bk_drew ?_ | refine bk_alloc ?_ _ | refine bk_set ?_ (by simp <;> omega) _))⟩
  case round =>
    obtain ⟨k, j, hk, rfl, hj, S1, S2, hS, rfl, rfl, hb, B0, B1⟩ := hrel
    have C0 := bk3 B0
    have C1 := bk2 B1
    by_cases hlt : k < n
    · have hltI : (j : Int) < ((n + 1 : Nat) : Int) := by have := hj.out; omega
      have hkl : k < ss.length := by rw [hn'.out]; omega
      have hkl2 : k + 1 < ss.length := by rw [hn'.out]; omega
      obtain ⟨p, hp⟩ : ∃ m, ss[k] = m := ⟨_, rfl⟩
      obtain ⟨q, hq⟩ : ∃ m, ss[k + 1] = m := ⟨_, rfl⟩
      have hx : ss[k]? = some p := by rw [← hp]; exact List.getElem?_eq_getElem hkl
      have hy : ss[k + 1]? = some q := by rw [← hq]; exact List.getElem?_eq_getElem hkl2
      have hps := hR'.out.s p (List.mem_of_getElem? hx)
      have hqs := hR'.out.s q (List.mem_of_getElem? hy)
      have hup := hR'.out.up k p q hx hy
      have hsum := hbd.out k (by omega)
      obtain ⟨b1, o1, hA1, hbl1, hc1⟩ := hat'.out.below hb k p hx
      obtain ⟨b2, o2, hA2, hbl2, hc2⟩ := hat'.out.below hb (k + 1) q hy
      obtain ⟨rfl, rfl⟩ : b = b1 ∧ o = o1 := by injection hA1 with hA1; injection hA1 with e1 e2 _; exact ⟨e1, e2⟩
      obtain ⟨rfl, rfl⟩ : b = b2 ∧ o = o2 := by injection hA2 with hA2; injection hA2 with e1 e2 _; exact ⟨e1, e2⟩
      have a1 := area_bd (min p.inn q.inn) (dip - bung) (by omega) (by omega) (by omega)
      have a2 := area_bd (max p.out q.out) (dip - bung) (by omega) (by omega) (by omega)
      have b1 := prod_bd (q.at_ - p.at_) _ (by omega) (by omega) a1.1 a1.2.1
      have b2 := prod_bd (q.at_ - p.at_) _ (by omega) (by omega) a2.2.2.1 a2.2.2.2
      have hs' : sumTo bung dip ss (k + 1) = ((sumTo bung dip ss k).1 + (part bung dip p q).1, (sumTo bung dip ss k).2 + (part bung dip p q).2) := by
        conv => lhs; unfold sumTo
        rw [hx, hy]
      unfold part at hs'
      rw [hS.out] at hs' hsum
      obtain ⟨pa, pi', po⟩ := p
      obtain ⟨qa, qi, qo⟩ := q
      have c0 := hc1 0 _ rfl
      have c1 := hc1 1 _ rfl
      have c2 := hc1 2 _ rfl
      have d0 := hc2 0 _ rfl
      have d1 := hc2 1 _ rfl
      have d2 := hc2 2 _ rfl
      dsimp only at *
      simp only [Nat.add_zero] at c0 d0
      obtain ⟨M1, hM1⟩ : ∃ m, (if qi < pi' then qi else pi') = m := ⟨_, rfl⟩
      obtain ⟨M2, hM2⟩ : ∃ m, (if po < qo then qo else po) = m := ⟨_, rfl⟩
      have e1 : min pi' qi = M1 := by rw [← hM1]; split <;> omega
      have e2 : max po qo = M2 := by rw [← hM2]; split <;> omega
      rw [e1] at a1 b1
      rw [e2] at a2 b2
      rw [e1, e2] at hs'
      have hC1 := Lib.hid fun W => refArea74_any M1 (dip - bung) W (by omega) (by omega) (by omega) (by omega)
      have hC2 := Lib.hid fun W => refArea74_any M2 (dip - bung) W (by omega) (by omega) (by omega) (by omega)
      have hs2 := Lib.hid hs'
      generalize (areaOf M1 (dip - bung)) = r1 at *
      generalize (areaOf M2 (dip - bung)) = r2 at *
      obtain ⟨u1, u2⟩ := r1
      obtain ⟨v1, v2⟩ := r2
      rw [← hj.out] at d0 d1 d2
      have hk1 : IntKind.i64.wrap ((j : Int) - 1) = (j : Int) - 1 := IntWalk.i64_in _ (by have := hj.out; omega)
      have hk2 : ((j : Int) - 1).toNat = k := by have := hj.out; omega
      have hkn : (j : Int) - 1 < ((n + 1 : Nat) : Int) := by omega
      have hk0 : (0 : Int) ≤ (j : Int) - 1 := by have := hj.out; omega
      have hj1 : (1 : Int) ≤ (j : Int) := by have := hj.out; omega
      have hkm : (j : Int) - 1 < (n : Int) + 1 := by have := hj.out; omega
      have hj0 : (0 : Int) ≤ (j : Int) := by omega
      clear e1 e2 hs' hx hy hp hq hA1 hA2 hc1 hc2 hkl hkl2
      dsimp only at *
      go_wp2_with fail
      go_region_held3 (fun w' => w'.cell? ⟨w.heap.size, 2, none⟩ = some (.slice (some ⟨b, o, none⟩) (n + 1) c) ∧ w'.cell? ⟨b, o + k * 3, none⟩ = some (.int .i64 pa) ∧ w'.cell? ⟨b, o + k * 3 + 1, none⟩ = some (.int .i64 pi') ∧ w'.cell? ⟨b, o + k * 3 + 2, none⟩ = some (.int .i64 po) ∧ w'.cell? ⟨b, o + j * 3, none⟩ = some (.int .i64 qa) ∧ w'.cell? ⟨b, o + j * 3 + 1, none⟩ = some (.int .i64 qi) ∧ w'.cell? ⟨b, o + j * 3 + 2, none⟩ = some (.int .i64 qo)) (go_keep) (fail)
      · go_wp2_with fail
        refine wp_world ?_
        intro W hW_W
        have hb_W : Below w.heap.size w W := by rw [hW_W]; go_grown
        have D0 : W.heap[w.heap.size]? = some (.cells #[.string s, .int .i64 bung, .slice (some ⟨b, o, none⟩) (n + 1) c] 34 (0, 0)) := by rw [hW_W]; (repeat (first | assumption | exact bk_new _ _ (by simp) | refine bk_drew ?_ | refine bk_alloc ?_ _ | refine bk_set ?_ (by simp <;> omega) _))
        have D1 : W.heap[w.heap.size + 1]? = some (.cells #[.int .i64 0, .int .i64 0] 24 (0, 0)) := by rw [hW_W]; (repeat (first | assumption | exact bk_new _ _ (by simp) | refine bk_drew ?_ | refine bk_alloc ?_ _ | refine bk_set ?_ (by simp <;> omega) _))
        have DX : W.heap[wr.heap.size]? = some (.cells #[.int .i64 pa, .int .i64 pi', .int .i64 po] 44 (0, 0)) := by rw [hW_W]; (repeat (first | assumption | exact bk_new _ _ (by simp) | refine bk_drew ?_ | refine bk_alloc ?_ _ | refine bk_set ?_ (by simp <;> omega) _))
        have DY : W.heap[wr.heap.size + 1]? = some (.cells #[.int .i64 qa, .int .i64 qi, .int .i64 qo] 44 (0, 0)) := by rw [hW_W]; (repeat (first | assumption | exact bk_new _ _ (by simp) | refine bk_drew ?_ | refine bk_alloc ?_ _ | refine bk_set ?_ (by simp <;> omega) _))
        have E0 := bk3 D0
        have E1 := bk2 D1
        have EX := bk3 DX
        have EY := bk3 DY
        clear hW_W B0 B1 C0 C1 c0 c1 c2 d0 d1 d2
        refine region_all w (by kernel_rfl) (by kernel_rfl) (by go_grown) ?_
        intro hgc hbx
        have hfd1 : ∀ W : World, Sem.run Try.prog (Instr.field 24 (.agg #[.int .i64 u1, .int .i64 u2]) 0) W = .ok (.int .i64 u1) W := fun _ => by kernel_rfl
        repeat (go_big_quiet_step ((go_at_call 74; exact Grew.call (hC1.out _))))
        refine wpQuiet_nil ?_
        intro w3 hb3 hbw3 hsz3
        clear hgc hbx hfd1
        replace D0 := bk_keep hb3 D0
        replace D1 := bk_keep hb3 D1
        replace DX := bk_keep hb3 DX
        replace DY := bk_keep hb3 DY
        replace E0 := bk3 D0
        replace E1 := bk2 D1
        replace EX := bk3 DX
        replace EY := bk3 DY
        go_wp2_with fail
        refine region_all w (by kernel_rfl) (by kernel_rfl) (by go_grown) ?_
        intro hgc hbx
        have hfd1 : ∀ W : World, Sem.run Try.prog (Instr.field 24 (.agg #[.int .i64 v1, .int .i64 v2]) 1) W = .ok (.int .i64 v2) W := fun _ => by kernel_rfl
        repeat (go_big_quiet_step ((go_at_call 74; exact Grew.call (hC2.out _))))
        refine wpQuiet_nil ?_
        intro w4 hb4 hbw4 hsz4
        clear hgc hbx hfd1
        replace D0 := bk_keep hb4 D0
        replace D1 := bk_keep hb4 D1
        clear DX DY E0 E1 EX EY
        go_wp2
        go_roundw
        case rel => exact ⟨k + 1, j + 1, by omega, by go_num, by have := hj.out; unfold Hid; omega, _, _, hs2.out, by go_num, by go_num, by go_grown, D0, D1⟩
        case measure => simp [intOf]; omega
      · go_wp2_with fail
        refine wp_world ?_
        intro W hW_W
        have hb_W : Below w.heap.size w W := by rw [hW_W]; go_grown
        have D0 : W.heap[w.heap.size]? = some (.cells #[.string s, .int .i64 bung, .slice (some ⟨b, o, none⟩) (n + 1) c] 34 (0, 0)) := by rw [hW_W]; (repeat (first | assumption | exact bk_new _ _ (by simp) | refine bk_drew ?_ | refine bk_alloc ?_ _ | refine bk_set ?_ (by simp <;> omega) _))
        have D1 : W.heap[w.heap.size + 1]? = some (.cells #[.int .i64 0, .int .i64 0] 24 (0, 0)) := by rw [hW_W]; (repeat (first | assumption | exact bk_new _ _ (by simp) | refine bk_drew ?_ | refine bk_alloc ?_ _ | refine bk_set ?_ (by simp <;> omega) _))
        have DX : W.heap[wr.heap.size + 1]? = some (.cells #[.int .i64 pa, .int .i64 pi', .int .i64 po] 44 (0, 0)) := by rw [hW_W]; (repeat (first | assumption | exact bk_new _ _ (by simp) | refine bk_drew ?_ | refine bk_alloc ?_ _ | refine bk_set ?_ (by simp <;> omega) _))
        have DY : W.heap[wr.heap.size]? = some (.cells #[.int .i64 qa, .int .i64 qi, .int .i64 qo] 44 (0, 0)) := by rw [hW_W]; (repeat (first | assumption | exact bk_new _ _ (by simp) | refine bk_drew ?_ | refine bk_alloc ?_ _ | refine bk_set ?_ (by simp <;> omega) _))
        have E0 := bk3 D0
        have E1 := bk2 D1
        have EX := bk3 DX
        have EY := bk3 DY
        clear hW_W B0 B1 C0 C1 c0 c1 c2 d0 d1 d2
        refine region_all w (by kernel_rfl) (by kernel_rfl) (by go_grown) ?_
        intro hgc hbx
        have hfd1 : ∀ W : World, Sem.run Try.prog (Instr.field 24 (.agg #[.int .i64 u1, .int .i64 u2]) 0) W = .ok (.int .i64 u1) W := fun _ => by kernel_rfl
        repeat (go_big_quiet_step ((go_at_call 74; exact Grew.call (hC1.out _))))
        refine wpQuiet_nil ?_
        intro w3 hb3 hbw3 hsz3
        clear hgc hbx hfd1
        replace D0 := bk_keep hb3 D0
        replace D1 := bk_keep hb3 D1
        replace DX := bk_keep hb3 DX
        replace DY := bk_keep hb3 DY
        replace E0 := bk3 D0
        replace E1 := bk2 D1
        replace EX := bk3 DX
        replace EY := bk3 DY
        go_wp2_with fail
        refine region_all w (by kernel_rfl) (by kernel_rfl) (by go_grown) ?_
        intro hgc hbx
        have hfd1 : ∀ W : World, Sem.run Try.prog (Instr.field 24 (.agg #[.int .i64 v1, .int .i64 v2]) 1) W = .ok (.int .i64 v2) W := fun _ => by kernel_rfl
        repeat (go_big_quiet_step ((go_at_call 74; exact Grew.call (hC2.out _))))
        refine wpQuiet_nil ?_
        intro w4 hb4 hbw4 hsz4
        clear hgc hbx hfd1
        replace D0 := bk_keep hb4 D0
        replace D1 := bk_keep hb4 D1
        clear DX DY E0 E1 EX EY
        go_wp2
        go_roundw
        case rel => exact ⟨k + 1, j + 1, by omega, by go_num, by have := hj.out; unfold Hid; omega, _, _, hs2.out, by go_num, by go_num, by go_grown, D0, D1⟩
        case measure => simp [intOf]; omega
    · have hkn : k = n := by have := hj.out; omega
      have hsum := hbd.out k (by omega)
      have hV : Hid (toV bung dip ss = ((sumTo bung dip ss k).1 / 100000, -(-(sumTo bung dip ss k).2 / 100000))) := by
        unfold Hid toV
        rw [hn'.out, hkn]; rfl
      rw [hT'.out, hS.out] at hV
      rw [hS.out] at hsum
      dsimp only at *
      have hF := Lib.hid fun W => refFloor_any S1 100000 W (by omega) (by omega) (by omega)
      have hG := Lib.hid fun W => refCeil_any S2 100000 W (by omega) (by omega) (by omega)
      have e := hV.out
      simp only [Prod.mk.injEq] at e
      rw [← e.1] at hF
      rw [← e.2] at hG
      clear e
      have hjn : ¬ (j : Int) < ((n + 1 : Nat) : Int) := by have := hj.out; omega
      go_wp2_with (first | (go_at_call 75; refine (hF.out _).mono ?_; rintro e w1 ⟨rfl, rfl⟩) | (go_at_call 76; refine (hG.out _).mono ?_; rintro e w1 ⟨rfl, rfl⟩))
      refine bodyPost_ret (v := .agg #[.int .i64 T1, .int .i64 T2]) ?_ rfl ⟨rfl, ?_⟩
      · simp [results, Try.results25, go_sem, C1]
      · go_grown
end Go.Proofs
