import Derived.Test.YtmnjoamkaapjcaaGreatMg17
import Derived.Test.YtmnjoamkaapjcaaGreatMg16
set_option linter.unusedSimpArgs false
set_option linter.unusedVariables false
namespace Go.Proofs
open Go.RowKit

set_option maxRecDepth 100000 in
set_option maxHeartbeats 2000000 in
theorem to_any (s : ByteArray) (bung dip : Int) (A : Option Addr) (ss : List St) (c : Nat) (w : World) (hR : RightC bung ss) (hd : 0 ≤ dip) (hd2 : dip ≤ 2 * bung) (hcap : ss.length ≤ c) (hat : At 3 St.cs w A ss) :
    Calls Tryz.prog 51 #[.agg #[.string s, .int .i64 bung, .slice A ss.length c], .int .i64 dip] w fun e w' =>
      e = .returned (.agg #[.int .i64 (toV bung dip ss).1, .int .i64 (toV bung dip ss).2]) ∧ Below w.heap.size w w' := by
  obtain ⟨n, hn⟩ : ∃ n, ss.length = n + 1 := ⟨ss.length - 1, by have := hR.n; omega⟩
  have hn' := Lib.hid hn
  have hRn := hR.n
  have hRb := hR.b
  have hbd := Lib.hid (sumTo_bd bung dip ss hR hd hd2)
  have hR' := Lib.hid hR
  have hat' := Lib.hid hat
  have h0l : 0 < ss.length := by omega
  have hx : ss[0]? = some ss[0] := List.getElem?_eq_getElem h0l
  obtain ⟨b, o, hA, hbl, -⟩ := hat 0 _ hx
  subst hA
  rw [hn] at hcap hRn ⊢
  obtain ⟨hn1, hn2⟩ := hRn
  have h1n : (1 : Int) ≤ ((n + 1 : Nat) : Int) := by omega
  have h1c : ((n + 1 : Nat) : Int) ≤ (c : Int) := by omega
  clear hn hx h0l hR hat
  obtain ⟨T, hT⟩ : ∃ T, toV bung dip ss = T := ⟨_, rfl⟩
  rw [hT]
  have hT' := Lib.hid hT
  clear hT
  obtain ⟨T1, T2⟩ := T
  dsimp only
  go_enter Tryz.func51, Tryz.ntmps51
  go_wp2_with fail
  go_loopw [16] (fun i wr => ∃ k : Nat, k ≤ n ∧ i = .int .i64 k ∧ Below w.heap.size w wr ∧ w.heap.size + 1 + 1 < wr.heap.size ∧
    wr.cell? ⟨w.heap.size, 0, none⟩ = some (.string s) ∧ wr.cell? ⟨w.heap.size, 1, none⟩ = some (.int .i64 bung) ∧ wr.cell? ⟨w.heap.size, 2, none⟩ = some (.slice (some ⟨b, o, none⟩) (n + 1) c) ∧
    wr.cell? ⟨w.heap.size + 1, 0, none⟩ = some (.int .i64 0) ∧ wr.cell? ⟨w.heap.size + 1, 1, none⟩ = some (.int .i64 0) ∧ wr.frozen? ⟨w.heap.size + 1, 0, none⟩ = false ∧ wr.frozen? ⟨w.heap.size + 1, 1, none⟩ = false ∧
    wr.cell? ⟨w.heap.size + 1 + 1, 0, none⟩ = some (.int .i64 (sumTo bung dip ss k).1) ∧ wr.cell? ⟨w.heap.size + 1 + 1, 1, none⟩ = some (.int .i64 (sumTo bung dip ss k).2) ∧ wr.frozen? ⟨w.heap.size + 1 + 1, 0, none⟩ = false ∧ wr.frozen? ⟨w.heap.size + 1 + 1, 1, none⟩ = false) (fun i _ => n - (intOf i).toNat)
  case atStart =>
    refine ⟨0, Nat.zero_le _, rfl, by go_grown, by simp, ?_⟩
    simp [go_sem, sumTo]
  case round =>
    obtain ⟨k, hk, rfl, hb, hsz, f0, f1, f2, g0, g1, g2, g3, s0, s1, s2, s3⟩ := hrel
    have hz0 : w.heap.size < wr.heap.size := by omega
    have hz1 : w.heap.size + 1 < wr.heap.size := by omega
    by_cases hlt : k < n
    · have hkl : k < ss.length := by rw [hn'.out]; omega
      have hkl2 : k + 1 < ss.length := by rw [hn'.out]; omega
      obtain ⟨p, hp⟩ : ∃ m, ss[k] = m := ⟨_, rfl⟩
      obtain ⟨q, hq⟩ : ∃ m, ss[k + 1] = m := ⟨_, rfl⟩
      have hx : ss[k]? = some p := by rw [← hp]; exact List.getElem?_eq_getElem hkl
      have hy : ss[k + 1]? = some q := by rw [← hq]; exact List.getElem?_eq_getElem hkl2
      have hps := hR'.out.s p (List.mem_of_getElem? hx)
      have hqs := hR'.out.s q (List.mem_of_getElem? hy)
      have hup := hR'.out.up k p q hx hy
      have hsum := hbd.out k (by omega)
      obtain ⟨b1, o1, hA1, hbl1, hc1⟩ := hat'.out.below hb k p hx
      obtain ⟨b2, o2, hA2, hbl2, hc2⟩ := hat'.out.below hb (k + 1) q hy
      obtain ⟨rfl, rfl⟩ : b = b1 ∧ o = o1 := by injection hA1 with hA1; injection hA1 with e1 e2 _; exact ⟨e1, e2⟩
      obtain ⟨rfl, rfl⟩ : b = b2 ∧ o = o2 := by injection hA2 with hA2; injection hA2 with e1 e2 _; exact ⟨e1, e2⟩
      have a1 := area_bd (min p.inn q.inn) (dip - bung) (by omega) (by omega) (by omega)
      have a2 := area_bd (max p.out q.out) (dip - bung) (by omega) (by omega) (by omega)
      have b1 := prod_bd (q.at_ - p.at_) _ (by omega) (by omega) a1.1 a1.2.1
      have b2 := prod_bd (q.at_ - p.at_) _ (by omega) (by omega) a2.2.2.1 a2.2.2.2
      have hs' : sumTo bung dip ss (k + 1) = ((sumTo bung dip ss k).1 + (part bung dip p q).1, (sumTo bung dip ss k).2 + (part bung dip p q).2) := by
        conv => lhs; unfold sumTo
        rw [hx, hy]
      unfold part at hs'
      dsimp only at hs'
      obtain ⟨pa, pi', po⟩ := p
      obtain ⟨qa, qi, qo⟩ := q
      have c0 := hc1 0 _ rfl
      have c1 := hc1 1 _ rfl
      have c2 := hc1 2 _ rfl
      have d0 := hc2 0 _ rfl
      have d1 := hc2 1 _ rfl
      have d2 := hc2 2 _ rfl
      dsimp only at *
      rw [show o + (k + 1) * 3 = o + 3 + k * 3 by omega] at d0 d1 d2
      simp only [Nat.add_zero] at c0 d0
      obtain ⟨M1, hM1⟩ : ∃ m, (if qi < pi' then qi else pi') = m := ⟨_, rfl⟩
      obtain ⟨M2, hM2⟩ : ∃ m, (if po < qo then qo else po) = m := ⟨_, rfl⟩
      have e1 : min pi' qi = M1 := by rw [← hM1]; split <;> omega
      have e2 : max po qo = M2 := by rw [← hM2]; split <;> omega
      rw [e1] at a1 b1
      rw [e2] at a2 b2
      rw [e1, e2] at hs'
      have hC1 := Lib.hid fun W => area_any M1 (dip - bung) W (by omega) (by omega) (by omega) (by omega)
      have hC2 := Lib.hid fun W => area_any M2 (dip - bung) W (by omega) (by omega) (by omega) (by omega)
      have hs2 := Lib.hid hs'
      generalize (areaOf M1 (dip - bung)) = r1 at *
      generalize (areaOf M2 (dip - bung)) = r2 at *
      obtain ⟨u1, u2⟩ := r1
      obtain ⟨v1, v2⟩ := r2
      dsimp only at *
      generalize hS : sumTo bung dip ss k = S at *
      obtain ⟨S1, S2⟩ := S
      have hS2 := Lib.hid hS
      clear e1 e2 hS hs' hx hy hp hq hA1 hA2 hc1 hc2 hkl hkl2
      dsimp only at *
      go_wp2_with fail
      refine region_all w (by kernel_rfl) (by kernel_rfl) (by go_grown) ?_
      intro hgc hbx
      repeat (go_big_quiet_step (fail))
      refine wpQuiet_nil ?_
      intro w3 hb3 hbw3 hsz3
      clear hgc hbx
      have hcc3 := gcell hb3
      have hff3 := gfrozen hb3
      simp only [World.size_alloc] at hsz3
      have f1' : w3.cell? ⟨w.heap.size, 1, none⟩ = some (.int .i64 bung) := by rw [hcc3 _ _ (by simp; omega)]; simp [go_sem, hz0, hz1, hsz, f1]
      have f0' : w3.cell? ⟨w.heap.size, 0, none⟩ = some (.string s) := by rw [hcc3 _ _ (by simp; omega)]; simp [go_sem, hz0, hz1, hsz, f0]
      have f2' : w3.cell? ⟨w.heap.size, 2, none⟩ = some (.slice (some ⟨b, o, none⟩) (n + 1) c) := by rw [hcc3 _ _ (by simp; omega)]; simp [go_sem, hz0, hz1, hsz, f2]
      have g0' : w3.cell? ⟨w.heap.size + 1, 0, none⟩ = some (.int .i64 0) := by rw [hcc3 _ _ (by simp; omega)]; simp [go_sem, hz0, hz1, hsz, g0]
      have g1' : w3.cell? ⟨w.heap.size + 1, 1, none⟩ = some (.int .i64 0) := by rw [hcc3 _ _ (by simp; omega)]; simp [go_sem, hz0, hz1, hsz, g1]
      have g2' : w3.frozen? ⟨w.heap.size + 1, 0, none⟩ = false := by rw [hff3 _ _ (by simp; omega)]; simp [go_sem, hz0, hz1, hsz, g2]
      have g3' : w3.frozen? ⟨w.heap.size + 1, 1, none⟩ = false := by rw [hff3 _ _ (by simp; omega)]; simp [go_sem, hz0, hz1, hsz, g3]
      have s0' : w3.cell? ⟨w.heap.size + 1 + 1, 0, none⟩ = some (.int .i64 S1) := by rw [hcc3 _ _ (by simp; omega)]; simp [go_sem, hz0, hz1, hsz, s0]
      have s1' : w3.cell? ⟨w.heap.size + 1 + 1, 1, none⟩ = some (.int .i64 S2) := by rw [hcc3 _ _ (by simp; omega)]; simp [go_sem, hz0, hz1, hsz, s1]
      have s2' : w3.frozen? ⟨w.heap.size + 1 + 1, 0, none⟩ = false := by rw [hff3 _ _ (by simp; omega)]; simp [go_sem, hz0, hz1, hsz, s2]
      have s3' : w3.frozen? ⟨w.heap.size + 1 + 1, 1, none⟩ = false := by rw [hff3 _ _ (by simp; omega)]; simp [go_sem, hz0, hz1, hsz, s3]
      have x0' : w3.cell? ⟨wr.heap.size, 0, none⟩ = some (.int .i64 qa) := by rw [hcc3 _ _ (by simp; omega)]; simp [go_sem]
      have y0' : w3.cell? ⟨wr.heap.size + 1, 0, none⟩ = some (.int .i64 pa) := by rw [hcc3 _ _ (by simp)]; simp [go_sem]
      have hB1 : w.heap.size + 1 + 1 < wr.heap.size := by omega
      have hB2 : wr.heap.size < w3.heap.size := by omega
      have hB3 : wr.heap.size + 1 < w3.heap.size := by omega
      have hw30 : w.heap.size < w3.heap.size := by omega
      have hw31 : w.heap.size + 1 < w3.heap.size := by omega
      have hw32 : w.heap.size + 1 + 1 < w3.heap.size := by omega
      clear hcc3 hff3 f0 f1 f2 g0 g1 g2 g3 s0 s1 s2 s3 c0 c1 c2 d0 d1 d2 hbl1 hbl2 hb hb3 hsz3 hsz hz0 hz1
      go_wp2_with fail
      refine region_in w 18 (by kernel_rfl) (by kernel_rfl) (by go_grown) ?_
      intro hgc hbx
      simp only [List.take_succ_cons, List.take_zero, List.drop_succ_cons, List.drop_zero]
      have hfd1 : ∀ W : World, Sem.run Tryz.prog (Instr.field 23 (.agg #[.int .i64 u1, .int .i64 u2]) 0) W = .ok (.int .i64 u1) W := fun _ => by kernel_rfl
      repeat (go_big_quiet_step ((go_at_call 44; exact Grew.call (hC1.out _))))
      clear hfd1
      refine wpQuiet_nil ?_
      intro w4 hb4 hbw4 hsz4
      clear hgc hbx
      have hcc := gcell hb4
      have hff := gfrozen hb4
      have x0 := (hcc _ 0 hB2).trans x0'
      have y0 := (hcc _ 0 hB3).trans y0'
      have f0 := (hcc _ 0 hw30).trans f0'
      have f1 := (hcc _ 1 hw30).trans f1'
      have f2 := (hcc _ 2 hw30).trans f2'
      have g0 := (hcc _ 0 hw31).trans g0'
      have g1 := (hcc _ 1 hw31).trans g1'
      have g2 := (hff _ 0 hw31).trans g2'
      have g3 := (hff _ 1 hw31).trans g3'
      have s0 := (hcc _ 0 hw32).trans s0'
      have s1 := (hcc _ 1 hw32).trans s1'
      have s2 := (hff _ 0 hw32).trans s2'
      have s3 := (hff _ 1 hw32).trans s3'
      have hC0 : wr.heap.size < w4.heap.size := by omega
      have hC1' : wr.heap.size + 1 < w4.heap.size := by omega
      have hw40 : w.heap.size < w4.heap.size := by omega
      have hw41 : w.heap.size + 1 < w4.heap.size := by omega
      have hw42 : w.heap.size + 1 + 1 < w4.heap.size := by omega
      clear hcc hff x0' y0' f0' f1' f2' g0' g1' g2' g3' s0' s1' s2' s3' hB2 hB3 hw30 hw31 hw32 hsz4 hb4
      go_wp2_with fail
      have b50 : Below w.heap.size w (w4.setCell ⟨w.heap.size + 1 + 1, 0, none⟩ (.int .i64 (S1 + (qa - pa) * u1))) := by go_grown
      generalize hw5 : w4.setCell ⟨w.heap.size + 1 + 1, 0, none⟩ (.int .i64 (S1 + (qa - pa) * u1)) = w5 at *
      have z5 : w5.heap.size = w4.heap.size := by rw [← hw5]; simp
      have x0' : w5.cell? ⟨wr.heap.size, 0, none⟩ = some (.int .i64 qa) := by rw [← hw5]; simp [go_sem, x0, hB1, Nat.ne_of_gt]
      have y0' : w5.cell? ⟨wr.heap.size + 1, 0, none⟩ = some (.int .i64 pa) := by rw [← hw5]; simp [go_sem, y0, hB1, Nat.ne_of_gt]
      have f0' : w5.cell? ⟨w.heap.size, 0, none⟩ = some (.string s) := by rw [← hw5]; simp [go_sem, f0]
      have f1' : w5.cell? ⟨w.heap.size, 1, none⟩ = some (.int .i64 bung) := by rw [← hw5]; simp [go_sem, f1]
      have f2' : w5.cell? ⟨w.heap.size, 2, none⟩ = some (.slice (some ⟨b, o, none⟩) (n + 1) c) := by rw [← hw5]; simp [go_sem, f2]
      have g0' : w5.cell? ⟨w.heap.size + 1, 0, none⟩ = some (.int .i64 0) := by rw [← hw5]; simp [go_sem, g0]
      have g1' : w5.cell? ⟨w.heap.size + 1, 1, none⟩ = some (.int .i64 0) := by rw [← hw5]; simp [go_sem, g1]
      have g2' : w5.frozen? ⟨w.heap.size + 1, 0, none⟩ = false := by rw [← hw5]; simp [go_sem, g2]
      have g3' : w5.frozen? ⟨w.heap.size + 1, 1, none⟩ = false := by rw [← hw5]; simp [go_sem, g3]
      have s0' : w5.cell? ⟨w.heap.size + 1 + 1, 0, none⟩ = some (.int .i64 (S1 + (qa - pa) * u1)) := by rw [← hw5]; simp [go_sem, s0]
      have s1' : w5.cell? ⟨w.heap.size + 1 + 1, 1, none⟩ = some (.int .i64 S2) := by rw [← hw5]; simp [go_sem, s1]
      have s2' : w5.frozen? ⟨w.heap.size + 1 + 1, 0, none⟩ = false := by rw [← hw5]; simp [go_sem, s2]
      have s3' : w5.frozen? ⟨w.heap.size + 1 + 1, 1, none⟩ = false := by rw [← hw5]; simp [go_sem, s3]
      have hB2 : wr.heap.size < w5.heap.size := by omega
      have hB3 : wr.heap.size + 1 < w5.heap.size := by omega
      have hw30 : w.heap.size < w5.heap.size := by omega
      have hw31 : w.heap.size + 1 < w5.heap.size := by omega
      have hw32 : w.heap.size + 1 + 1 < w5.heap.size := by omega
      clear hw5 z5 x0 y0 f0 f1 f2 g0 g1 g2 g3 s0 s1 s2 s3 hC0 hC1' hw40 hw41 hw42 hbw4
      refine region_in w 18 (by kernel_rfl) (by kernel_rfl) (by go_grown) ?_
      intro hgc hbx
      simp only [List.take_succ_cons, List.take_zero, List.drop_succ_cons, List.drop_zero]
      have hfd1 : ∀ W : World, Sem.run Tryz.prog (Instr.field 23 (.agg #[.int .i64 v1, .int .i64 v2]) 1) W = .ok (.int .i64 v2) W := fun _ => by kernel_rfl
      repeat (go_big_quiet_step ((go_at_call 44; exact Grew.call (hC2.out _))))
      clear hfd1
      refine wpQuiet_nil ?_
      intro w6 hb6 hbw6 hsz6
      clear hgc hbx
      have hcc := gcell hb6
      have hff := gfrozen hb6
      have f0 := (hcc _ 0 hw30).trans f0'
      have f1 := (hcc _ 1 hw30).trans f1'
      have f2 := (hcc _ 2 hw30).trans f2'
      have g0 := (hcc _ 0 hw31).trans g0'
      have g1 := (hcc _ 1 hw31).trans g1'
      have g2 := (hff _ 0 hw31).trans g2'
      have g3 := (hff _ 1 hw31).trans g3'
      have s0 := (hcc _ 0 hw32).trans s0'
      have s1 := (hcc _ 1 hw32).trans s1'
      have s2 := (hff _ 0 hw32).trans s2'
      have s3 := (hff _ 1 hw32).trans s3'
      have hw40 : w.heap.size < w6.heap.size := by omega
      have hw41 : w.heap.size + 1 < w6.heap.size := by omega
      have hw42 : w.heap.size + 1 + 1 < w6.heap.size := by omega
      clear hcc hff x0' y0' f0' f1' f2' g0' g1' g2' g3' s0' s1' s2' s3' hB2 hB3 hw30 hw31 hw32 hsz6 hb6
      go_wp2
      go_roundw
      case rel =>
        refine ⟨k + 1, by omega, by go_num, by go_grown, by simpa using hw42, ?_⟩
        rw [hs2.out]
        simp [go_sem, f0, f1, f2, g0, g1, g2, g3, s0, s1, s2, s3]
      case measure => simp [intOf]; omega
    · have hsum := hbd.out k (by omega)
      have hkn : k = n := by omega
      have hV : Hid (toV bung dip ss = ((sumTo bung dip ss k).1 / 100000, -(-(sumTo bung dip ss k).2 / 100000))) := by
        unfold Hid toV
        rw [hn'.out, hkn]; rfl
      rw [hT'.out] at hV
      generalize sumTo bung dip ss k = S at *
      obtain ⟨S1, S2⟩ := S
      dsimp only at *
      have hF := Lib.hid fun W => floor_any S1 100000 W (by omega) (by omega) (by omega)
      have hG := Lib.hid fun W => ceil_any S2 100000 W (by omega) (by omega) (by omega)
      have e := hV.out
      simp only [Prod.mk.injEq] at e
      rw [← e.1] at hF
      rw [← e.2] at hG
      clear e
      go_wp2_with fail
      refine region_in w 7 (by kernel_rfl) (by kernel_rfl) (by go_grown) ?_
      intro hgc hbx
      simp only [List.take_succ_cons, List.take_zero, List.drop_succ_cons, List.drop_zero]
      repeat (go_big_quiet_step (first
        | (go_at_call 73; exact Grew.call_same (hF.out _))
        | (go_at_call 74; exact Grew.call_same (hG.out _))))
      refine wpQuiet_nil ?_
      intro w4 hb4 hbw4 hsz4
      have hcc := gcell hb4
      have hff := gfrozen hb4
      have g0' := (hcc _ 0 hz1).trans g0
      have g1' := (hcc _ 1 hz1).trans g1
      have g2' := (hff _ 0 hz1).trans g2
      have g3' := (hff _ 1 hz1).trans g3
      clear hgc hbx hcc hff
      go_wp2
      refine bodyPost_ret (v := .agg #[.int .i64 T1, .int .i64 T2]) ?_ rfl ⟨rfl, ?_⟩
      · simp [results, Tryz.results51, go_sem, g0', g1', g2', g3']
      · go_grown
end Go.Proofs

set_option linter.unusedSimpArgs false
set_option linter.unusedVariables false
namespace Go.Proofs
open Go.RowKit

def volToE (s : List UInt8) (bung : Int) (ss : List St) (dip : Int) : Int := firstE [(checkC s bung ss).2, unl (within dip 0 (wrap64 (2 * bung))) 2]
def volToV (s : List UInt8) (bung : Int) (ss : List St) (dip : Int) : Int × Int := if volToE s bung ss dip = 0 then toV bung dip ss else (0, 0)
theorem firstE2_zero {a b : Int} (h : firstE [a, b] = 0) : a = 0 ∧ b = 0 := by
  simp only [firstE] at h
  by_cases ha : a = 0 <;> by_cases hb : b = 0 <;> simp [ha, hb] at h ⊢
theorem unl_zero {b : Bool} {n : Int} (hn : n ≠ 0) (h : unl b n = 0) : b = true := by
  unfold unl at h
  cases b
  · exact (hn h).elim
  · rfl

set_option maxRecDepth 100000 in
set_option maxHeartbeats 1000000 in
theorem volumeTo_any (s : ByteArray) (bung : Int) (A : Option Addr) (ss : List St) (c : Nat) (dip : Int) (w : World) (hs : s.size ≤ 9223372036854775807) (hcap : ss.length ≤ c) (hat : At 3 St.cs w A ss) :
    Calls Tryz.prog 22 #[.agg #[.string s, .int .i64 bung, .slice A ss.length c], .int .i64 dip] w fun e w' =>
      e = .returned (.tuple #[.agg #[.int .i64 (volToV s.data.toList bung ss dip).1, .int .i64 (volToV s.data.toList bung ss dip).2], .int .i64 (volToE s.data.toList bung ss dip)]) ∧ Below w.heap.size w w' := by
  unfold volToV
  obtain ⟨Z, hZ⟩ : ∃ Z, volToE s.data.toList bung ss dip = Z := ⟨_, rfl⟩
  have hO := Lib.hid fun W hb => open_any s bung A ss c W hs (At.below hat hb)
  rw [hZ]
  have hR : Hid (Z = 0 → RightC bung ss ∧ 0 ≤ dip ∧ dip ≤ 2 * bung) := fun hz => by
    rw [hz] at hZ
    obtain ⟨h1, h2⟩ := firstE2_zero hZ
    have hr := rightC_of h1
    have h3 := within_true (unl_zero (by decide) h2)
    have hb := hr.b
    have : wrap64 (2 * bung) = 2 * bung := by unfold wrap64; omega
    rw [this] at h3
    exact ⟨hr, h3⟩
  have hat' := Lib.hid hat
  unfold volToE at hZ
  generalize (checkC s.data.toList bung ss).2 = E at *
  obtain ⟨D, hD⟩ : ∃ D, within dip 0 (wrap64 (2 * bung)) = D := ⟨_, rfl⟩
  have hI := Lib.hid fun W => isDip_any s bung dip A ss.length c W
  rw [hD] at hZ hI
  clear hD hat
  by_cases hz : Z = 0
  · rw [if_pos hz]
    obtain ⟨hR1, hd1, hd2⟩ := hR.out hz
    have hT := Lib.hid fun W hb => to_any s bung dip A ss c W hR1 hd1 hd2 hcap (At.below hat'.out hb)
    rw [hz] at hZ
    subst hz
    generalize toV bung dip ss = T at *
    obtain ⟨T1, T2⟩ := T
    dsimp only at *
    have hne : (firstE [E, unl D 2] != 0) = false := by simp [hZ]
    clear hR1 hR hZ
    go_enter Tryz.func22, Tryz.ntmps22
    go_wp2_with (first
      | (go_at_call 49; refine (hO.out _ ?_).mono ?_; (· go_grown); rintro e w1 ⟨rfl, hb⟩; have hcc := gcell hb; have hff := gfrozen hb; have hbw := via (by go_grown : Below w.heap.size w _) hb; have hz0 : w.heap.size < w1.heap.size := (by have := hb.size; simp at this; omega); have hz1 : w.heap.size + 1 < w1.heap.size := (by have := hb.size; simp at this; omega))
      | (go_at_call 50; refine (hI.out _).mono ?_; rintro e w2 ⟨rfl, hb2⟩; have hcc2 := gcell hb2; have hff2 := gfrozen hb2; have hbw2 := via (by go_grown : Below w.heap.size w _) hb2; have hz2 : w1.heap.size < w2.heap.size := (by have := hb2.size; simp at this; omega); have hz3 : w.heap.size < w2.heap.size := (by omega); have hz4 : w.heap.size + 1 < w2.heap.size := (by omega))
      | (go_at_call 36; refine (unless_any _ _ _).mono ?_; rintro e w' ⟨rfl, rfl⟩)
      | (go_at_call 33; refine (first2 _ _ _).mono ?_; rintro e w' ⟨rfl, rfl⟩)
      | (go_at_call 51; refine (hT.out _ ?_).mono ?_; (· go_grown); rintro e w3 ⟨rfl, hb3⟩; have hcc3 := gcell hb3; have hff3 := gfrozen hb3; have hbw3 := via (by go_grown : Below w.heap.size w _) hb3; have hz5 : w.heap.size + 1 < w3.heap.size := (by have := hb3.size; simp at this; omega)))
    refine bodyPost_ret (v := .tuple #[.agg #[.int .i64 T1, .int .i64 T2], .int .i64 0]) ?_ rfl ⟨rfl, ?_⟩
    · simp [results, Tryz.results22, go_sem, hcc, hff, hcc2, hff2, hcc3, hff3, hz0, hz1, hz2, hz3, hz4, hz5]
    · go_grown
  · rw [if_neg hz]
    have hne : (firstE [E, unl D 2] != 0) = true := by simp [hZ, hz]
    have hZ' := Lib.hid hZ
    clear hZ hR hz
    go_enter Tryz.func22, Tryz.ntmps22
    go_wp2_with (first
      | (go_at_call 49; refine (hO.out _ ?_).mono ?_; (· go_grown); rintro e w1 ⟨rfl, hb⟩; have hcc := gcell hb; have hff := gfrozen hb; have hbw := via (by go_grown : Below w.heap.size w _) hb; have hz0 : w.heap.size < w1.heap.size := (by have := hb.size; simp at this; omega); have hz1 : w.heap.size + 1 < w1.heap.size := (by have := hb.size; simp at this; omega))
      | (go_at_call 50; refine (hI.out _).mono ?_; rintro e w2 ⟨rfl, hb2⟩; have hcc2 := gcell hb2; have hff2 := gfrozen hb2; have hbw2 := via (by go_grown : Below w.heap.size w _) hb2; have hz2 : w1.heap.size < w2.heap.size := (by have := hb2.size; simp at this; omega); have hz3 : w.heap.size < w2.heap.size := (by omega); have hz4 : w.heap.size + 1 < w2.heap.size := (by omega))
      | (go_at_call 36; refine (unless_any _ _ _).mono ?_; rintro e w' ⟨rfl, rfl⟩)
      | (go_at_call 33; refine (first2 _ _ _).mono ?_; rintro e w' ⟨rfl, rfl⟩))
    refine bodyPost_ret (v := .tuple #[.agg #[.int .i64 0, .int .i64 0], .int .i64 Z]) ?_ rfl ⟨rfl, ?_⟩
    · simp [results, Tryz.results22, go_sem, hcc, hff, hcc2, hff2, hz0, hz1, hz2, hz3, hz4, hZ'.out]
    · go_grown
end Go.Proofs
