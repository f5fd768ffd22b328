import Derived.Test.YtbikblifpfokaaaGreatDoorMg17
import Derived.Test.YtbikblifpfokaaaGreatDoorMg18
import Derived.Test.YtbikblifpfokaaaGreatDoorMg20
import Derived.Test.YtbikblifpfokaaaGreatDoorMg15
import Derived.Test.YtbikblifpfokaaaGreatDoorMg2
import Derived.Test.YtbikblifpfokaaaGreatDoorMg11
set_option linter.unusedSimpArgs false
set_option linter.unusedVariables false
namespace Go.Proofs
open Go.RowKit
attribute [local go_sem] Oper.semAt_some

theorem equalTexts_any (A A2 : Option Addr) (l : List ByteArray) (c c2 : Nat) (w : World) (hl : l.length ≤ 1000) (hat : At 1 Sc w A l) (hat2 : At 1 Sc w A2 l) :
    Calls Tryz.prog 33 #[.slice A l.length c, .slice A2 l.length c2] w fun e w' => e = .returned (.bool true) ∧ Below w.heap.size w w' := by
  by_cases h0 : l.length = 0
  · rw [h0]
    refine (Tryz.slices_Equal_string_empty A A2 c 0 c2 w (by decide)).mono ?_
    rintro e w' ⟨rfl, rfl⟩
    exact ⟨by simp, Below.refl _ _⟩
  · obtain ⟨x, hx⟩ : ∃ x, l[0]? = some x := ⟨_, List.getElem?_eq_getElem (by omega)⟩
    obtain ⟨b, o, rfl, -⟩ := hat 0 x hx
    obtain ⟨b2, o2, rfl, -⟩ := hat2 0 x hx
    have hc : ∀ {b o : Nat}, At 1 Sc w (some ⟨b, o, none⟩) l → ∀ j, j < l.length → w.cell? ⟨b, o + j, none⟩ = some (.string (l.getD j ByteArray.empty)) := fun {b o} h j hj => by
      obtain ⟨b', o', ha', -, hc⟩ := h j _ (List.getElem?_eq_getElem hj)
      cases ha'
      have := hc 0 _ rfl
      simp only [Nat.mul_one, Nat.add_zero] at this
      rw [this]
      simp [List.getD, List.getElem?_eq_getElem hj]
    refine (Tryz.slices_Equal_string b o l.length c b2 o2 l.length c2 l l w (Nat.le_refl _) (Nat.le_refl _) (by omega) (by omega) (hc hat) (hc hat2)).mono ?_
    rintro e w' ⟨rfl, q, rfl⟩
    exact ⟨by simp, ⟨rfl, rfl, rfl, Nat.le_refl _, fun _ _ => rfl⟩⟩
/-- What Distinguish finds. -/
def distC (m : Nat) (cl cl2 : List Cl) (b b2 : Nat) : Option (List Nat) := ((bfsB (bothC cl cl2) m (b, b2) (pairsU cl.length cl2.length).length).find? fun p => dif cl cl2 p.1).map (·.2)
def DistGot (m : Nat) (cl cl2 : List Cl) (b b2 : Nat) (e : Ending) (w' : World) : Prop :=
  match distC m cl cl2 b b2 with
  | some u => ∃ A c, e = .returned (.tuple #[.slice A u.length c, .int .i64 0]) ∧ At 1 Nc w' A u
  | none => e = .returned (.tuple #[.slice none 0 0, .int .i64 12])
set_option maxRecDepth 100000 in
set_option maxHeartbeats 4000000 in
theorem dist_any (mA cA mA2 cA2 : Option Addr) (mk : List ByteArray) (cl cl2 : List Cl) (mc cc mc2 cc2 bg bg2 : Nat) (w : World) (hR : RightB mk bg cl) (hat : BkAt w mA mk cA cl) (hR2 : RightB mk bg2 cl2) (hat2 : BkAt w mA2 mk cA2 cl2)
    (hC : ∀ W, Below w.heap.size w W → Calls Tryz.prog 53 #[.agg #[.slice mA mk.length mc, .int .i64 bg, .slice cA cl.length cc]] W fun e w' => e = .returned (.tuple #[.int .i64 0, .int .i64 0]) ∧ Below W.heap.size W w')
    (hC2 : ∀ W, Below w.heap.size w W → Calls Tryz.prog 53 #[.agg #[.slice mA2 mk.length mc2, .int .i64 bg2, .slice cA2 cl2.length cc2]] W fun e w' => e = .returned (.tuple #[.int .i64 0, .int .i64 0]) ∧ Below W.heap.size W w') :
    Calls Tryz.prog 10 #[.agg #[.slice mA mk.length mc, .int .i64 bg, .slice cA cl.length cc], .agg #[.slice mA2 mk.length mc2, .int .i64 bg2, .slice cA2 cl2.length cc2]] w fun e w' => DistGot mk.length cl cl2 bg bg2 e w' ∧ Below w.heap.size w w' := by
  refine (callsIn_wide (n := 6)).1 ?_
  refine callsIn_of_wp_marks Tryz.func10 rfl trivial ?_ rfl
  simp only [Tryz.ntmps10, List.size_toArray, List.length_cons, List.length_nil, Nat.reduceAdd, Nat.reduceSub, Array.replicate_succ, Array.replicate_zero, List.push_toArray, List.append_toArray, List.nil_append, List.cons_append]
  have hO := Lib.hid fun W (hb : Below w.heap.size w W) => open_ok mA cA mk.length mc cl.length cc bg W (fun W2 hb2 => hC W2 (via hb hb2))
  have hO2 := Lib.hid fun W (hb : Below w.heap.size w W) => open_ok mA2 cA2 mk.length mc2 cl2.length cc2 bg2 W (fun W2 hb2 => hC2 W2 (via hb hb2))
  have hE := Lib.hid fun W (hb : Below w.heap.size w W) => equalTexts_any mA mA2 mk mc mc2 W (by have := hR.m1; omega) (hat.mks.below hb) (hat2.mks.below hb)
  have hU13 := Lib.hid fun W => unless_any true 13 W
  unfold unl at hU13
  simp only [if_true] at hU13
  obtain ⟨M, hM⟩ : ∃ M, mk.length = M := ⟨_, rfl⟩
  obtain ⟨N, hN⟩ : ∃ N, cl.length = N := ⟨_, rfl⟩
  obtain ⟨N2, hN2⟩ : ∃ N, cl2.length = N := ⟨_, rfl⟩
  rw [hM, hN] at hO
  rw [hM, hN2] at hO2
  rw [hM] at hE
  rw [hM, hN, hN2]
  gi_wp2_with (first
    | (refine ⟨trivial, ?_⟩
       gi_at_call 23
       refine (callsIn_wide.2 (hO.out _ ?_)).mono ?_
       · go_grown
       rintro e w1 ⟨rfl, hb1⟩
       clear hO
       have A0 : w1.heap[w.heap.size]? = some (.cells #[.slice mA M mc, .int .i64 bg, .slice cA N cc] 25 (0, 0)) := bk_keep hb1 (by (repeat (first | assumption | (refine bk_new _ _ ?_; (simp; done)) | refine bk_drew ?_ | refine bk_alloc ?_ _ | refine bk_set ?_ (by simp <;> omega) _)))
       have A1 : w1.heap[w.heap.size + 1]? = some (.cells #[.slice mA2 M mc2, .int .i64 bg2, .slice cA2 N2 cc2] 25 (0, 0)) := bk_keep hb1 (by (repeat (first | assumption | (refine bk_new _ _ ?_; (simp; done)) | refine bk_drew ?_ | refine bk_alloc ?_ _ | refine bk_set ?_ (by simp <;> omega) _)))
       have A2 : w1.heap[w.heap.size + 1 + 1]? = some (.cells #[.slice none 0 0] 26 (0, 0)) := bk_keep hb1 (by (repeat (first | assumption | (refine bk_new _ _ ?_; (simp; done)) | refine bk_drew ?_ | refine bk_alloc ?_ _ | refine bk_set ?_ (by simp <;> omega) _)))
       have A3 : w1.heap[w.heap.size + 1 + 1 + 1]? = some (.cells #[.int .i64 0] 31 (0, 0)) := bk_keep hb1 (by (repeat (first | assumption | (refine bk_new _ _ ?_; (simp; done)) | refine bk_drew ?_ | refine bk_alloc ?_ _ | refine bk_set ?_ (by simp <;> omega) _)))
       have hw1 : Below w.heap.size w w1 := via (by go_grown) hb1
       have hs1 := hw1.size
       have A1c := bk3 (bk_alloc A1 (.cells #[.slice mA M mc, .int .i64 bg, .slice cA N cc] 62 (0, 0)))))
  refine ⟨trivial, ?_⟩
  gi_at_call 23
  refine (callsIn_wide.2 (hO2.out _ ?_)).mono ?_
  · go_grown
  rintro e w3 ⟨rfl, hb3⟩
  clear hO2
  have B0 : w3.heap[w.heap.size]? = some (.cells #[.slice mA M mc, .int .i64 bg, .slice cA N cc] 25 (0, 0)) := bk_keep hb3 (bk_alloc A0 _)
  have B1 : w3.heap[w.heap.size + 1]? = some (.cells #[.slice mA2 M mc2, .int .i64 bg2, .slice cA2 N2 cc2] 25 (0, 0)) := bk_keep hb3 (bk_alloc A1 _)
  have B2 : w3.heap[w.heap.size + 1 + 1]? = some (.cells #[.slice none 0 0] 26 (0, 0)) := bk_keep hb3 (bk_alloc A2 _)
  have B3 : w3.heap[w.heap.size + 1 + 1 + 1]? = some (.cells #[.int .i64 0] 31 (0, 0)) := bk_keep hb3 (bk_alloc A3 _)
  have B4 : w3.heap[w1.heap.size]? = some (.cells #[.slice mA M mc, .int .i64 bg, .slice cA N cc] 62 (0, 0)) := bk_keep hb3 (bk_new w1 _ rfl)
  have hw3 : Below w.heap.size w w3 := via (by go_grown) hb3
  have hs3 := hw3.size
  have B0c := bk3 (bk_alloc B0 (.cells #[.slice mA2 M mc2, .int .i64 bg2, .slice cA2 N2 cc2] 62 (0, 0)))
  have B1c := bk3 (bk_alloc B1 (.cells #[.slice mA2 M mc2, .int .i64 bg2, .slice cA2 N2 cc2] 62 (0, 0)))
  gi_wp2_with (first
    | (refine ⟨trivial, ?_⟩
       gi_at_call 33
       refine (callsIn_wide.2 (hE.out _ ?_)).mono ?_
       · go_grown
       rintro e w5 ⟨rfl, hb5⟩
       have D0 := bk_alloc (bk_keep hb5 (bk_alloc B0 _)) (.cells #[.int .i64 0, .int .i64 0] 31)
       have D1 := bk_alloc (bk_keep hb5 (bk_alloc B1 _)) (.cells #[.int .i64 0, .int .i64 0] 31)
       have D2 := bk_alloc (bk_keep hb5 (bk_alloc B2 _)) (.cells #[.int .i64 0, .int .i64 0] 31)
       have D3 := bk_alloc (bk_keep hb5 (bk_alloc B3 _)) (.cells #[.int .i64 0, .int .i64 0] 31)
       have D4 := bk_alloc (bk_keep hb5 (bk_alloc B4 _)) (.cells #[.int .i64 0, .int .i64 0] 31)
       have D5 := bk_alloc (bk_keep hb5 (bk_new w3 _ rfl)) (.cells #[.int .i64 0, .int .i64 0] 31)
       have hw5 : Below w.heap.size w w5 := via (by go_grown) hb5
       have hs5 := hw5.size
       have D0c := bk3 D0
       have D1c := bk3 D1)
    | (refine ⟨trivial, ?_⟩
       gi_at_call 32
       refine (callsIn_wide.2 (hU13.out _)).mono ?_
       rintro e w6 ⟨rfl, rfl⟩)
    | (refine ⟨trivial, ?_⟩
       gi_at_call 31
       refine (callsIn_wide.2 (first2_any _ _ (bk2 (bk_new _ _ rfl)).1 (bk2 (bk_new _ _ rfl)).2.1)).mono ?_
       rintro e w7 ⟨rfl, rfl⟩)
    | (refine ⟨trivial, ?_⟩
       gi_at_call 35
       refine (callsIn_wide.2 (search35_any _ _ _ _ _ _ _)).mono ?_
       rintro e w8 ⟨rfl, rfl⟩))
  refine wpIn_world ?_
  intro W hW_W
  have hb_W : Below w.heap.size w W := by rw [hW_W]; go_grown
  have hsW : W.heap.size = w5.heap.size + 4 := by rw [hW_W]; simp
  have h13 : w1.heap.size < w3.heap.size := by have := bk_size B4; exact this
  have h35 : w3.heap.size < w5.heap.size := by have := bk_size (bk_keep hb5 (bk_new w3 (.cells #[.slice mA2 M mc2, .int .i64 bg2, .slice cA2 N2 cc2] 62 (0, 0)) rfl)); exact this
  have h01 : w.heap.size + 1 + 1 + 1 < w1.heap.size := bk_size A3
  have R0 : W.heap[w.heap.size + 1 + 1]? = some (.cells #[.slice none 0 0] 26 (0, 0)) := by rw [hW_W]; exact bk_alloc (bk_alloc (bk_alloc D2 _) _) _
  have R1 : W.heap[w.heap.size + 1 + 1 + 1]? = some (.cells #[.int .i64 0] 31 (0, 0)) := by rw [hW_W]; exact bk_alloc (bk_alloc (bk_alloc D3 _) _) _
  have K1 : W.heap[w1.heap.size]? = some (BKo mA M mc bg cA N cc) := by rw [hW_W]; exact bk_alloc (bk_alloc (bk_alloc D4 _) _) _
  have K2 : W.heap[w3.heap.size]? = some (BKo mA2 M mc2 bg2 cA2 N2 cc2) := by rw [hW_W]; exact bk_alloc (bk_alloc (bk_alloc D5 _) _) _
  have P1 : W.heap[w5.heap.size + 1]? = some (.cells #[.int .i64 bg, .int .i64 bg2] 77 (0, 0)) := by rw [hW_W]; (repeat (first | assumption | (refine bk_new _ _ ?_; (simp; done)) | refine bk_drew ?_ | refine bk_alloc ?_ _ | refine bk_set ?_ (by simp <;> omega) _))
  have P2 : W.heap[w5.heap.size + 1 + 1]? = some (.cells #[.int .i64 M] 3 (0, 0)) := by rw [hW_W]; (repeat (first | assumption | (refine bk_new _ _ ?_; (simp; done)) | refine bk_drew ?_ | refine bk_alloc ?_ _ | refine bk_set ?_ (by simp <;> omega) _))
  have P3 : W.heap[w5.heap.size + 1 + 2]? = some (.cells #[.func (.func 34) #[] #[.pointer (some ⟨w1.heap.size, 0, none⟩), .pointer (some ⟨w3.heap.size, 0, none⟩)]] 78 (0, 0)) := by rw [hW_W]; (repeat (first | assumption | (refine bk_new _ _ ?_; (simp; done)) | refine bk_drew ?_ | refine bk_alloc ?_ _ | refine bk_set ?_ (by simp <;> omega) _))
  clear hW_W A0 A1 A2 A3 A1c B0 B1 B2 B3 B4 B0c B1c D0 D1 D2 D3 D4 D5 D0c D1c
  have hU : ∀ s ∈ pairsU cl.length cl2.length, ∀ a, a < M → bothC cl cl2 s a ∈ pairsU cl.length cl2.length := fun s hs a ha => by
    rw [mem_pairsU] at hs ⊢
    exact ⟨nxC_lt hR hs.1 (by omega), nxC_lt hR2 hs.2 (by omega)⟩
  have hbU : ((bg, bg2) : Nat × Nat) ∈ pairsU cl.length cl2.length := mem_pairsU.2 ⟨by have := hR.bg; have := hR.c1; omega, by have := hR2.bg; have := hR2.c1; omega⟩
  have hN8 := hR.c1
  have hN82 := hR2.c1
  have hM6 := hR.m1
  have hUl : (pairsU cl.length cl2.length).length ≤ 100 := by
    rw [pairsU_len]
    have : cl.length * cl2.length ≤ 8 * 8 := Nat.mul_le_mul hN8.2 hN82.2
    omega
  have hstops := search2_stops 5 (bothC cl cl2) M (bg, bg2) (pairsU cl.length cl2.length) hbU hU hUl (by omega) (w5.heap.size + 1) (w5.heap.size + 1 + 1) (w5.heap.size + 1 + 2) 34 #[] #[.pointer (some ⟨w1.heap.size, 0, none⟩), .pointer (some ⟨w3.heap.size, 0, none⟩)] (fun k => k = w.heap.size + 1 + 1 ∨ k = w.heap.size + 1 + 1 + 1) W (bk2 P1).1 (bk2 P1).2.1 (bk1 P2).1 (bk1 P3).1 (by omega) (by omega) (by omega) (by intro k hk; omega) (enters_of Tryz.func34 (by kernel_rfl) rfl) (fun s hs a ha W' hl => by
    have hk : ∀ j, j < w.heap.size → W'.heap[j]? = w.heap[j]? := fun j hj => (hl.same j (by omega) (by omega)).trans (hb_W.block j hj)
    rw [mem_pairsU] at hs
    exact both_any mA cA mA2 cA2 mk mk cl cl2 mc cc mc2 cc2 bg bg2 w1.heap.size w3.heap.size s.1 s.2 a W' hR (hat.kept hk) hR2 (hat2.kept hk) (by rw [hM, hN]; exact hl.obj (by omega) K1) (by rw [hM, hN2]; exact hl.obj (by omega) K2) hs.1 hs.2 (by omega) (by omega))
  have hkey : ∀ (pre : List (Fd (Nat × Nat))) (x : Fd (Nat × Nat)), (∀ p ∈ pre, dif cl cl2 p.st = false) → dif cl cl2 x.st = true → (pre ++ [x]).map Fd.key <+: bfsB (bothC cl cl2) M (bg, bg2) (pairsU cl.length cl2.length).length → distC M cl cl2 bg bg2 = some x.wd := by
    rintro pre x hp hx ⟨rest, he⟩
    unfold distC
    rw [← he, List.map_append, List.append_assoc, List.find?_append]
    have : (pre.map Fd.key).find? (fun p => dif cl cl2 p.1) = none := by
      rw [List.find?_eq_none]
      intro q hq
      obtain ⟨y, hy, rfl⟩ := List.mem_map.1 hq
      rw [show (Fd.key y).1 = y.st from rfl, hp y hy]
      decide
    rw [this]
    simp [Fd.key, hx]
  refine wp_rangeW rfl (by omega) (gf := 60) (lb := #[.pointer (some ⟨w5.heap.size + 1, 0, none⟩), .pointer (some ⟨w5.heap.size + 1 + 1, 0, none⟩), .pointer (some ⟨w5.heap.size + 1 + 2, 0, none⟩)]) rfl trivial (enters_of Tryz.func60 (by kernel_rfl) rfl) hstops (by intro k hk; omega) (fun _ => rfl)
    (fun pre T W' => Below w.heap.size w W' ∧ (W'.heap[w.heap.size + 1 + 1]? = some (.cells #[.slice none 0 0] 26 (0, 0)) ∧ W'.heap[w.heap.size + 1 + 1 + 1]? = some (.cells #[.int .i64 0] 31 (0, 0)) ∧ W'.heap[w1.heap.size]? = some (BKo mA M mc bg cA N cc) ∧ W'.heap[w3.heap.size]? = some (BKo mA2 M mc2 bg2 cA2 N2 cc2)) ∧ W.heap.size ≤ W'.heap.size ∧ ∀ p ∈ pre, dif cl cl2 p.st = false)
    (fun c pre T W' => c = .ret ∧ Below w.heap.size w W' ∧ ∃ pre' x, pre = pre' ++ [x] ∧ (∀ p ∈ pre', dif cl cl2 p.st = false) ∧ dif cl cl2 x.st = true ∧ W'.heap[w.heap.size + 1 + 1]? = some (.cells #[.slice x.A x.wd.length x.c] 26 (0, 0)) ∧ W'.heap[w.heap.size + 1 + 1 + 1]? = some (.cells #[.int .i64 0] 31 (0, 0)) ∧ At 1 Nc W' x.A x.wd)
    (fun pre T x a W' => ∃ Bx, W.heap.size ≤ Bx ∧ (Below w.heap.size w W' ∧ (W'.heap[w.heap.size + 1 + 1]? = some (.cells #[.slice none 0 0] 26 (0, 0)) ∧ W'.heap[w.heap.size + 1 + 1 + 1]? = some (.cells #[.int .i64 0] 31 (0, 0)) ∧ W'.heap[w1.heap.size]? = some (BKo mA M mc bg cA N cc) ∧ W'.heap[w3.heap.size]? = some (BKo mA2 M mc2 bg2 cA2 N2 cc2)) ∧ W.heap.size ≤ W'.heap.size ∧ ∀ p ∈ pre, dif cl cl2 p.st = false) ∧ W'.heap[Bx]? = some (.cells #[.int .i64 x.st.1, .int .i64 x.st.2, .slice x.A x.wd.length x.c] 82 (0, 0)) ∧ x.st.1 < cl.length ∧ x.st.2 < cl2.length ∧ (At 1 Nc W' x.A x.wd ∧ ∀ r, gvF x r → W.heap.size ≤ r) ∧
      a = { tmps := #[.agg #[.slice mA M mc, .int .i64 bg, .slice cA N cc], .agg #[.slice mA2 M mc2, .int .i64 bg2, .slice cA2 N2 cc2], .pointer (some ⟨w.heap.size, 0, none⟩), .pointer (some ⟨w.heap.size + 1, 0, none⟩), .pointer (some ⟨w.heap.size + 1 + 1, 0, none⟩), .pointer (some ⟨w.heap.size + 1 + 1 + 1, 0, none⟩), .pointer (some ⟨w1.heap.size, 0, none⟩), .int .i64 0, .pointer (some ⟨w3.heap.size, 0, none⟩), .func (.func 34) #[] #[.pointer (some ⟨w1.heap.size, 0, none⟩), .pointer (some ⟨w3.heap.size, 0, none⟩)], .pointer (some ⟨Bx, 0, none⟩), .tuple #[.agg #[.slice mA M mc, .int .i64 bg, .slice cA N cc], .int .i64 0], .agg #[.slice mA M mc, .int .i64 bg, .slice cA N cc], .tuple #[.agg #[.slice mA M mc, .int .i64 bg, .slice cA N cc], .int .i64 0], .agg #[.slice mA M mc, .int .i64 bg, .slice cA N cc], .int .i64 0, .int .i64 0, .bool false, undef, .tuple #[.agg #[.slice mA2 M mc2, .int .i64 bg2, .slice cA2 N2 cc2], .int .i64 0], .agg #[.slice mA2 M mc2, .int .i64 bg2, .slice cA2 N2 cc2], .tuple #[.agg #[.slice mA2 M mc2, .int .i64 bg2, .slice cA2 N2 cc2], .int .i64 0], .agg #[.slice mA2 M mc2, .int .i64 bg2, .slice cA2 N2 cc2], .int .i64 0, .int .i64 0, .pointer (some ⟨w.heap.size, 0, none⟩), .slice mA M mc, .pointer (some ⟨w.heap.size + 1, 0, none⟩), .slice mA2 M mc2, .bool true, .int .i64 0, .slice (some ⟨w5.heap.size, 0, none⟩) 2 2, .int .i64 0, .int .i64 0, .bool false, undef, .func (.func 34) #[] #[.pointer (some ⟨w1.heap.size, 0, none⟩), .pointer (some ⟨w3.heap.size, 0, none⟩)], .pointer (some ⟨w.heap.size, 1, none⟩), .int .i64 bg, .pointer (some ⟨w.heap.size + 1, 1, none⟩), .int .i64 bg2, .agg #[.int .i64 bg, .int .i64 bg2], .pointer (some ⟨w.heap.size, 0, none⟩), .slice mA M mc, .int .i64 M, .func (.func 34) #[] #[.pointer (some ⟨w1.heap.size, 0, none⟩), .pointer (some ⟨w3.heap.size, 0, none⟩)], .func (.func 60) #[] #[.pointer (some ⟨w5.heap.size + 1, 0, none⟩), .pointer (some ⟨w5.heap.size + 1 + 1, 0, none⟩), .pointer (some ⟨w5.heap.size + 1 + 2, 0, none⟩)], .agg #[.int .i64 x.st.1, .int .i64 x.st.2, .slice x.A x.wd.length x.c], undef, undef, undef, undef, undef, undef, undef, undef, undef, undef, undef, undef, undef], defers := [] })
    ?hI ?hIx ?hAx ?h0 ?assign ?body ?done ?stop
  case hI =>
    rintro s T A W' row ⟨h1, ⟨h2, h3, h4, h5⟩, h6, h7⟩ hg hr
    have hk : ∀ {k : Nat} {o : Obj}, k < W.heap.size → A.heap[k]? = some o → W'.heap[k]? = some o := fun hk h => by
      rw [hg.block _ (bk_size h) (fun e => by have := (hr _ e.symm).1; omega)]
      exact h
    exact ⟨h1.grown hg h1.size (fun r e => by have := (hr r e).1; omega), ⟨hk (by omega) h2, hk (by omega) h3, hk (by omega) h4, hk (by omega) h5⟩, by have := hg.size; omega, h7⟩
  case hIx =>
    rintro c s T A W' row ⟨h0, h1, pre', x, rfl, h2, h3, h4, h5, h6⟩ hg hr
    have hk : ∀ {k : Nat} {o : Obj}, k < W.heap.size → A.heap[k]? = some o → W'.heap[k]? = some o := fun hk h => by
      rw [hg.block _ (bk_size h) (fun e => by have := (hr _ e.symm).1; omega)]
      exact h
    refine ⟨h0, h1.grown hg h1.size (fun r e => by have := (hr r e).1; omega), pre', x, rfl, h2, h3, hk (by omega) h4, hk (by omega) h5, ?_⟩
    intro k y hy
    obtain ⟨b, o, hA, hlt, -⟩ := h6 k y hy
    exact (h6.kept fun a ha => hg.block _ (by rw [ha] at hA; cases hA; exact hlt) fun e => (hr _ e.symm).2.2 x (by simp) ⟨a, ha, rfl⟩) k y hy
  case hAx =>
    rintro pre T x a W' l o o' hl hT hgv ho hc ⟨Bx, hBx, ⟨h1, ⟨h2, h3, h4, h5⟩, h6, h7⟩, h8, h9, h10, ⟨h11, h12⟩, h13⟩
    have hg := grownBy_putObj' W' l o'
    have hk : ∀ {k : Nat} {ob : Obj}, k < W.heap.size → W'.heap[k]? = some ob → (W'.putObj l o').heap[k]? = some ob := fun hk h => by
      rw [World.putObj_heap_other (by omega)]
      exact h
    refine ⟨Bx, hBx, ⟨h1.grown hg h1.size (fun r e => by cases e; omega), ⟨hk (by omega) h2, hk (by omega) h3, hk (by omega) h4, hk (by omega) h5⟩, by rw [World.putObj_size]; exact h6, h7⟩, ?_, h9, h10, ⟨?_, h12⟩, h13⟩
    · rw [World.putObj_heap_other]
      · exact h8
      · rintro rfl
        rw [h8] at ho
        cases ho
        cases hc
    · exact h11.kept fun a ha => World.putObj_heap_other fun e => hgv x (by simp) ⟨a, ha, e⟩
  case h0 => exact ⟨hb_W, ⟨R0, R1, K1, K2⟩, Nat.le_refl _, fun p hp => by cases hp⟩
  case assign =>
    rintro l pre T x W' ⟨h1, ⟨h2, h3, h4, h5⟩, h6, h7⟩ hT hlen ⟨hpre, hxat⟩ hgv
    have hxU := key_mem hbU hU hpre
    rw [mem_pairsU] at hxU
    have hb' := new_below W' (.cells #[.int .i64 x.st.1, .int .i64 x.st.2, .slice x.A x.wd.length x.c] 82)
    unfold encG
    gi_wp2
    exact ⟨.of_below _ hb', W'.heap.size, h6, ⟨via h1 hb', ⟨bk_keep hb' h2, bk_keep hb' h3, bk_keep hb' h4, bk_keep hb' h5⟩, by simp; omega, h7⟩, bk_new _ _ rfl, hxU.1, hxU.2, ⟨hxat.below hb', hgv x (by simp)⟩, rfl⟩
  case body =>
    rintro l pre T x a W' ⟨Bx, hBx, ⟨h1, ⟨h2, h3, h4, h5⟩, h6, h7⟩, hXb, hx1, hx2, ⟨hxat, hxg⟩, rfl⟩ hT hlen
    have hX := bk3 hXb
    have hXs := bk_size hXb
    have hK1 := bk3 h4
    have hK2 := bk3 h5
    unfold BKo at hK1 hK2
    have hK1s := bk_size h4
    have hK2s := bk_size h5
    have hRk1 := Lib.hid fun W2 (hb : Below w.heap.size w W2) => rank_any mA cA mk cl mc cc bg x.st.1 W2 (by omega) (fun y hy => by have := name_size (hR.nm y hy); omega) (hat.below hb).cls hx1
    have hRk2 := Lib.hid fun W2 (hb : Below w.heap.size w W2) => rank_any mA2 cA2 mk cl2 mc2 cc2 bg2 x.st.2 W2 (by omega) (fun y hy => by have := name_size (hR2.nm y hy); omega) (hat2.below hb).cls hx2
    have hq : Hid ((!((rkC cl x.st.1).toList == (rkC cl2 x.st.2).toList)) = dif cl cl2 x.st) := rfl
    obtain ⟨r1, hr1⟩ : ∃ r, rkC cl x.st.1 = r := ⟨_, rfl⟩
    obtain ⟨r2, hr2⟩ : ∃ r, rkC cl2 x.st.2 = r := ⟨_, rfl⟩
    rw [hr1] at hRk1 hq
    rw [hr2] at hRk2 hq
    rw [hM, hN] at hRk1
    rw [hM, hN2] at hRk2
    have hx' : Hid (dif cl cl2 x.st = false → ∀ p ∈ pre ++ [x], dif cl cl2 p.st = false) := fun hx p hp' => by
      rcases List.mem_append.1 hp' with h | h
      · exact h7 p h
      · rw [List.mem_singleton] at h
        rw [h]
        exact hx
    have hxat' := Lib.hid hxat
    clear hxat
    generalize x.st.1 = s1 at *
    generalize x.st.2 = s2 at *
    obtain ⟨XA, hXA⟩ : ∃ A, x.A = A := ⟨_, rfl⟩
    obtain ⟨XL, hXL⟩ : ∃ A, x.wd.length = A := ⟨_, rfl⟩
    obtain ⟨XC, hXC⟩ : ∃ A, x.c = A := ⟨_, rfl⟩
    have hXA' := Lib.hid hXA
    have hXL' := Lib.hid hXL
    have hXC' := Lib.hid hXC
    rw [hXA, hXL, hXC] at hX hXb ⊢
    clear hXA hXL hXC
    gi_wp2_with fail
    refine region_all_round w (by kernel_rfl) (by kernel_rfl) (noDefer (by kernel_rfl)) h1 ?_
    intro hgc hbx
    repeat (go_big_quiet_step (first | (go_at_call 36; first | with_reducible exact Grew.call (hRk1.out _ (hbx.out _)) | with_reducible exact Grew.call (hRk2.out _ (hbx.out _)))))
    refine wpQuiet_nil ?_
    intro wb hb_wb hw_wb hs_wb
    clear hgc hbx
    have R1 := bk_keep hb_wb h2
    have R1b := bk_keep hb_wb h3
    have hR1 := bk1 R1
    have hR1b := bk1 R1b
    have Xb := bk_keep hb_wb hXb
    have hXc := bk3 Xb
    have hlw : ∀ r, T r → T r ∨ W'.heap.size ≤ r := fun r h => .inl h
    gi_wp2_with fail
    · rename_i hd
      have hd2 := hq.out.symm.trans hd
      refine ⟨T, hlw, fun r hr => ?_, ?_, rfl, ?_, pre, x, rfl, h7, hd2, ?_, ?_, ?_⟩
      · have := (hT r hr).2
        have := hb_wb.size
        simp
        omega
      · exact (((Lie.of_below (fun k => (k = w.heap.size + 1 + 1 ∨ k = w.heap.size + 1 + 1 + 1) ∨ T k) hb_wb)).trans (Lie.setCell _ _ (.inl (.inl rfl)))).trans (Lie.setCell _ _ (.inl (.inr rfl)))
      · have h7 := via h1 hb_wb
        go_grown
      · rw [hXA'.out, hXL'.out, hXC'.out]
        exact bk_set (bk_here R1 _ rfl) (by simp) _
      · exact bk_here (bk_set R1b (by simp) _) _ rfl
      · refine (hxat'.out.below hb_wb).kept fun a ha => ?_
        have hga := hxg _ ⟨a, ha, rfl⟩
        exact (Below.heap_setCell _ _ _ _ (by dsimp only; omega)).trans (Below.heap_setCell _ _ _ _ (by dsimp only; omega))
    · rename_i hd
      have hd2 := hq.out.symm.trans hd
      exact ⟨T, hlw, fun r hr => Nat.lt_of_lt_of_le (hT r hr).2 hb_wb.size, .of_below _ hb_wb, via h1 hb_wb, ⟨R1, R1b, bk_keep hb_wb h4, bk_keep hb_wb h5⟩, by have := hb_wb.size; omega, hx'.out hd2⟩
  case done =>
    rintro D xs T W' hS ⟨h1, ⟨h2, h3, h4, h5⟩, h6, h7⟩ rfl hK
    have Q1 := bk1 h2
    have Q2 := bk1 h3
    have hnone : distC M cl cl2 bg bg2 = none := by
      unfold distC
      rw [← hS, Option.map_eq_none_iff, List.find?_eq_none]
      intro q hq
      obtain ⟨y, hy, rfl⟩ := List.mem_map.1 hq
      rw [show (Fd.key y).1 = y.st from rfl, h7 y hy]
      decide
    have hK' := Lib.hid hK
    gi_wp2
    have hK2 : ((W'.setCell ⟨w.heap.size + 1 + 1, 0, none⟩ (.slice none 0 0)).setCell ⟨w.heap.size + 1 + 1 + 1, 0, none⟩ (.int .i64 12)).heap[W.heap.size]? = some (.deferred (some [])) := (Below.heap_setCell _ _ _ _ (by dsimp only; omega)).trans ((Below.heap_setCell W' _ _ _ (by dsimp only; omega)).trans hK'.out)
    have hbb : Below w.heap.size w ((W'.setCell ⟨w.heap.size + 1 + 1, 0, none⟩ (.slice none 0 0)).setCell ⟨w.heap.size + 1 + 1 + 1, 0, none⟩ (.int .i64 12)) := by go_grown
    have R2 : ((W'.setCell ⟨w.heap.size + 1 + 1, 0, none⟩ (.slice none 0 0)).setCell ⟨w.heap.size + 1 + 1 + 1, 0, none⟩ (.int .i64 12)).heap[w.heap.size + 1 + 1]? = some (.cells #[.slice none 0 0] 26 (0, 0)) := bk_set (bk_here h2 _ rfl) (by simp) _
    have R2b : ((W'.setCell ⟨w.heap.size + 1 + 1, 0, none⟩ (.slice none 0 0)).setCell ⟨w.heap.size + 1 + 1 + 1, 0, none⟩ (.int .i64 12)).heap[w.heap.size + 1 + 1 + 1]? = some (.cells #[.int .i64 12] 31 (0, 0)) := bk_here (bk_set h3 (by simp) _) _ rfl
    refine ⟨by simp, .inl ⟨_, _, rfl, run_takeDeferred hK2, ?_⟩⟩
    refine ⟨.tuple #[.slice none 0 0, .int .i64 12], ?_, by unfold DistGot; rw [hnone], hbb.grown (grownBy_putObj' _ _ _) hbb.size (fun r e => by cases e; omega)⟩
    have R3 : (((W'.setCell ⟨w.heap.size + 1 + 1, 0, none⟩ (.slice none 0 0)).setCell ⟨w.heap.size + 1 + 1 + 1, 0, none⟩ (.int .i64 12)).putObj W.heap.size (.deferred none)).heap[w.heap.size + 1 + 1]? = some (.cells #[.slice none 0 0] 26 (0, 0)) := (World.putObj_heap_other (by omega)).trans R2
    have R3b : (((W'.setCell ⟨w.heap.size + 1 + 1, 0, none⟩ (.slice none 0 0)).setCell ⟨w.heap.size + 1 + 1 + 1, 0, none⟩ (.int .i64 12)).putObj W.heap.size (.deferred none)).heap[w.heap.size + 1 + 1 + 1]? = some (.cells #[.int .i64 12] 31 (0, 0)) := (World.putObj_heap_other (by omega)).trans R2b
    have R4 := bk1 R3
    have R4b := bk1 R3b
    generalize ((W'.setCell ⟨w.heap.size + 1 + 1, 0, none⟩ (.slice none 0 0)).setCell ⟨w.heap.size + 1 + 1 + 1, 0, none⟩ (.int .i64 12)).putObj _ _ = W9 at *
    simp [results, Tryz.results10, go_sem, R4, R4b]
  case stop =>
    rintro D c pre T W' hS ⟨rfl, h1, pre', x, rfl, h2, h3, h4, h5, h6⟩ rfl hK
    have Q1 := bk1 h4
    have Q2 := bk1 h5
    have hsome := hkey pre' x h2 h3 hS
    gi_wp2
    refine ⟨by simp, .inl ⟨_, _, rfl, run_takeDeferred hK, ?_⟩⟩
    have h66 : At 1 Nc (W'.putObj W.heap.size (.deferred none)) x.A x.wd := by
      intro k y hy
      obtain ⟨b, o, hA, hlt, hc⟩ := h6 k y hy
      exact ⟨b, o, hA, by rw [World.putObj_size]; exact hlt, fun j v hv => cell_putObj _ hK rfl (hc j v hv)⟩
    refine ⟨.tuple #[.slice x.A x.wd.length x.c, .int .i64 0], ?_, by unfold DistGot; rw [hsome]; exact ⟨_, _, rfl, h66⟩, h1.grown (grownBy_putObj' _ _ _) h1.size (fun r e => by cases e; omega)⟩
    have R3 : (W'.putObj W.heap.size (.deferred none)).heap[w.heap.size + 1 + 1]? = some (.cells #[.slice x.A x.wd.length x.c] 26 (0, 0)) := (World.putObj_heap_other (by omega)).trans h4
    have R3b : (W'.putObj W.heap.size (.deferred none)).heap[w.heap.size + 1 + 1 + 1]? = some (.cells #[.int .i64 0] 31 (0, 0)) := (World.putObj_heap_other (by omega)).trans h5
    have R4 := bk1 R3
    have R4b := bk1 R3b
    generalize W'.putObj _ _ = W9 at *
    simp [results, Tryz.results10, go_sem, R4, R4b]
end Go.Proofs

set_option linter.unusedSimpArgs false
set_option linter.unusedVariables false
namespace Go.Proofs
open Go.RowKit

theorem containsNo_any (A : Option Addr) (l : List ByteArray) (c : Nat) (x : ByteArray) (w : World) (hl : l.length ≤ 1000) (hat : At 1 Sc w A l) (hx : x ∉ l) :
    Calls Tryz.prog 93 #[.slice A l.length c, .string x] w fun e w' => e = .returned (.bool false) ∧ w' = w := by
  cases l with
  | nil =>
    refine (Tryz.slices_Contains_string_empty A c x w).mono ?_
    rintro e w' ⟨rfl, rfl⟩
    exact ⟨rfl, rfl⟩
  | cons y l' =>
    obtain ⟨l, hl'⟩ : ∃ l, y :: l' = l := ⟨_, rfl⟩
    obtain ⟨b, o, rfl, -⟩ := hat 0 y rfl
    rw [hl'] at hat hl hx ⊢
    refine (Tryz.slices_Contains_string b o l.length c l x w (Nat.le_refl _) (by omega) ?_).mono ?_
    · intro j hj
      obtain ⟨b', o', e, -, hc⟩ := hat j _ (List.getElem?_eq_getElem hj)
      simp only [Option.some.injEq, Addr.mk.injEq, and_true] at e
      obtain ⟨rfl, rfl⟩ := e
      have := hc 0 _ rfl
      simpa [List.getD, List.getElem?_eq_getElem hj] using this
    · rintro e w' ⟨rfl, rfl⟩
      rw [List.take_of_length_le (Nat.le_refl _)]
      have : Lib.containsS l x = false := by
        cases h : Lib.containsS l x with
        | false => rfl
        | true => exact absurd ((Lib.containsS_iff l x).1 h) hx
      rw [this]
      exact ⟨rfl, rfl⟩
theorem nameErrNew_any (A : Option Addr) (l : List ByteArray) (c : Nat) (s : ByteArray) (w : World) (hs : s.size ≤ 9223372036854775807) (hnm : nm8 s = true) (hl : l.length ≤ 1000) (hat : At 1 Sc w A l) (hx : s ∉ l) :
    Calls Tryz.prog 77 #[.string s, .slice A l.length c] w fun e w' => e = .returned (.int .i64 0) ∧ Below w.heap.size w w' :=
  nameErr_ok A l.length c s w hs hnm fun W hb => containsNo_any A l c s W hl (hat.below hb) hx
end Go.Proofs

set_option linter.unusedSimpArgs false
set_option linter.unusedVariables false
namespace Go.Proofs
open Go.RowKit

/-! CheckBook's closures: within the classes, and whether some number of a list isn't. -/
def wi (n : Nat) (x : Int) : Bool := within x 0 ((n : Int) - 1)
set_option maxRecDepth 100000 in
theorem isClass_any (n : Nat) (x : Int) (B : Nat) (w : World) (hn : n ≤ 1000) (hB : w.heap[B]? = some (.cells #[.int .i64 n] 3 (0, 0))) :
    Calls Tryz.prog 78 #[.int .i64 x, .pointer (some ⟨B, 0, none⟩)] w fun e w' => e = .returned (.bool (wi n x)) ∧ Below w.heap.size w w' := by
  have C := bk1 hB
  have hW := Lib.hid fun W => within_any x 0 ((n : Int) - 1) W
  have hnw : IntKind.i64.wrap ((n : Int) - 1) = (n : Int) - 1 := IntWalk.i64_in _ (by omega)
  unfold wi
  generalize within x 0 ((n : Int) - 1) = q at *
  go_enter Tryz.func78, Tryz.ntmps78
  go_wp2_with (go_at_call 42; refine (hW.out _).mono ?_; rintro e w' ⟨rfl, rfl⟩)
  go_ret
  exact ⟨rfl, by go_grown⟩
set_option maxRecDepth 100000 in
theorem noClass_any (n : Nat) (x : Int) (B D : Nat) (w : World) (hn : n ≤ 1000) (hB : w.heap[B]? = some (.cells #[.int .i64 n] 3 (0, 0))) (hD : w.heap[D]? = some (.cells #[.func (.func 78) #[] #[.pointer (some ⟨B, 0, none⟩)]] 90 (0, 0))) :
    Calls Tryz.prog 79 #[.int .i64 x, .pointer (some ⟨D, 0, none⟩)] w fun e w' => e = .returned (.bool (!(wi n x))) ∧ Below w.heap.size w w' := by
  have C := bk1 hD
  have hI := Lib.hid fun W (hb : Below w.heap.size w W) => isClass_any n x B W hn (bk_keep hb hB)
  generalize wi n x = q at *
  clear hB hD
  cases q
  all_goals
    go_enter Tryz.func79, Tryz.ntmps79
    go_wp2_with (go_at_call 78; refine (hI.out _ ?_).mono ?_; (· go_grown); rintro e w1 ⟨rfl, hb⟩; have hbw := via (by go_grown : Below w.heap.size w _) hb)
    go_ret
    exact ⟨rfl, hbw⟩
set_option maxRecDepth 100000 in
set_option maxHeartbeats 1000000 in
theorem indexInts_any (A : Option Addr) (l : List Int) (c n : Nat) (B D : Nat) (w : World) (hl : l.length ≤ 1000) (hn : n ≤ 1000) (hat : At 1 Ic w A l) (hB : w.heap[B]? = some (.cells #[.int .i64 n] 3 (0, 0))) (hD : w.heap[D]? = some (.cells #[.func (.func 78) #[] #[.pointer (some ⟨B, 0, none⟩)]] 90 (0, 0))) :
    Calls Tryz.prog 56 #[.slice A l.length c, .func (.func 79) #[] #[.pointer (some ⟨D, 0, none⟩)]] w fun e w' => (∃ r : Int, e = .returned (.int .i64 r) ∧ decide (0 ≤ r) = l.any fun y => !(wi n y)) ∧ Below w.heap.size w w' := by
  have hC := Lib.hid fun (y : Int) W (hb : Below w.heap.size w W) => noClass_any n y B D W hn (bk_keep hb hB) (bk_keep hb hD)
  have hat' := Lib.hid hat
  obtain ⟨m, hm⟩ : ∃ n, l.length = n := ⟨_, rfl⟩
  have hm' := Lib.hid hm
  rw [hm] at hl ⊢
  clear hat hB hD hm hn
  go_enter Tryz.func56, Tryz.ntmps56
  go_wp2_with fail
  go_loopw [8] (fun i wr => ∃ k : Nat, k ≤ m ∧ i = .int .i64 k ∧ Hid (((l.take k).any fun y => !(wi n y)) = false) ∧ Below w.heap.size w wr) (fun i _ => m - (intOf i).toNat)
  case atStart => exact ⟨0, Nat.zero_le _, rfl, rfl, Below.refl _ _⟩
  case round =>
    obtain ⟨k, hk, rfl, hno, hbw⟩ := hrel
    by_cases hlt : k < m
    · obtain ⟨y, hy⟩ : ∃ y, l[k]? = some y := ⟨_, List.getElem?_eq_getElem (by rw [hm'.out]; exact hlt)⟩
      obtain ⟨b, o, rfl, hbb, hc⟩ := hat'.out.below hbw k y hy
      have hCy := Lib.hid fun W hb => hC.out y W hb
      obtain ⟨q, hq⟩ : ∃ q, (!(wi n y)) = q := ⟨_, rfl⟩
      have hnext : Hid (((l.take (k + 1)).any fun y => !(wi n y)) = q) := by
        obtain ⟨hk', he⟩ := List.getElem?_eq_some_iff.1 hy
        unfold Hid
        rw [List.take_succ_eq_append_getElem hk', List.any_append, he, hno.out]
        simpa using hq
      have hall : Hid (q = true → (l.any fun y => !(wi n y)) = true) := fun h => by
        rw [List.any_eq_true]
        exact ⟨y, List.mem_of_getElem? hy, by rw [hq, h]⟩
      rw [hq] at hCy
      have y0 := hc 0 _ rfl
      simp only [Nat.add_zero, Nat.mul_one] at y0
      have hkI : (k : Int) < (m : Int) := by omega
      clear hc hy hq hno hC
      cases q
      · go_wp2_with (go_at_call 79; refine (hCy.out _ hbw).mono ?_; rintro e w1 ⟨rfl, hb⟩; have hbw := via hbw hb)
        go_roundw
        case rel => exact ⟨k + 1, by omega, by go_num, hnext, hbw⟩
        case measure => simp [intOf]; omega
      · have ht := hall.out rfl
        go_wp2_with (go_at_call 79; refine (hCy.out _ hbw).mono ?_; rintro e w1 ⟨rfl, hb⟩; have hbw := via hbw hb)
        go_ret
        exact ⟨⟨k, rfl, by rw [ht]; simp⟩, hbw⟩
    · have hkn : k = m := by omega
      subst hkn
      have hno2 := hno.out
      rw [List.take_of_length_le (by rw [hm'.out]; exact Nat.le_refl _)] at hno2
      have hno3 := Lib.hid hno2
      clear hno hno2 hC
      go_wp2
      go_ret
      exact ⟨⟨-1, rfl, by rw [hno3.out]; decide⟩, hbw⟩
set_option maxRecDepth 100000 in
theorem containsInts_any (A : Option Addr) (l : List Int) (c n : Nat) (B D : Nat) (w : World) (hl : l.length ≤ 1000) (hn : n ≤ 1000) (hat : At 1 Ic w A l) (hB : w.heap[B]? = some (.cells #[.int .i64 n] 3 (0, 0))) (hD : w.heap[D]? = some (.cells #[.func (.func 78) #[] #[.pointer (some ⟨B, 0, none⟩)]] 90 (0, 0))) :
    Calls Tryz.prog 40 #[.slice A l.length c, .func (.func 79) #[] #[.pointer (some ⟨D, 0, none⟩)]] w fun e w' => e = .returned (.bool (l.any fun y => !(wi n y))) ∧ Below w.heap.size w w' := by
  have hI := indexInts_any A l c n B D w hl hn hat hB hD
  generalize (l.any fun y => !(wi n y)) = q at *
  generalize l.length = m at *
  clear hat hB hD hn
  go_enter Tryz.func40, Tryz.ntmps40
  go_wp2_with (go_at_call 56; refine hI.mono ?_; rintro e w1 ⟨⟨r, rfl, hr⟩, hb⟩)
  go_ret
  exact ⟨rfl, hb⟩
end Go.Proofs
