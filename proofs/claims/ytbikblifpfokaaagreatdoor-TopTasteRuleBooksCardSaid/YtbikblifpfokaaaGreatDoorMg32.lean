import Derived.Test.YtbikblifpfokaaaGreatDoorMg26
import Derived.Test.YtbikblifpfokaaaGreatDoorMg29
import Derived.Test.YtbikblifpfokaaaGreatDoorMg30
import Derived.Test.YtbikblifpfokaaaGreatDoorMg22
import Derived.Test.YtbikblifpfokaaaGreatDoorMg31
import Derived.Test.YtbikblifpfokaaaGreatDoorMg10
import Derived.Test.YtbikblifpfokaaaGreatDoorMg7
import Derived.OpenShut
import Derived.Lib.LaidU8
import Derived.Lib.LaidTab
import Derived.LaidLaws
import Derived.Lay
import Derived.Handed
import Derived.HandedShaped
set_option linter.unusedSimpArgs false
set_option linter.unusedVariables false
namespace Go.Proofs
open Go.RowKit

/-! The contracts of the main walk, each with what is new in one ghost. -/
def CopyP (mk : List ByteArray) (cl : List Cl) (h : Gh) (x : World) : Prop := ∃ cl', BkAt x h.a1 mk h.a2 cl' ∧ cl'.map Cl.key = cl.map Cl.key ∧ mk.length ≤ h.c1
theorem CopyP.below {mk : List ByteArray} {cl : List Cl} {h : Gh} {x x' : World} (hc : CopyP mk cl h x) (hb : Below x.heap.size x x') : CopyP mk cl h x' := by
  obtain ⟨cl', h1, h2, h3⟩ := hc
  exact ⟨cl', h1.below hb, h2, h3⟩
theorem copyP_any (mA cA : Option Addr) (mk : List ByteArray) (cl : List Cl) (mc cc : Nat) (bg : Int) (w : World) (hR : RightB mk bg cl) (hat : BkAt w mA mk cA cl) :
    Calls Tryz.prog 9 #[.agg #[.slice mA mk.length mc, .int .i64 bg, .slice cA cl.length cc]] w fun e w' => ∃ h : Gh, e = .returned (.agg #[.slice (h).a1 mk.length (h).c1, .int .i64 (bg), .slice (h).a2 cl.length (h).c2]) ∧ CopyP mk cl h w' ∧ Below w.heap.size w w' := by
  refine (copyBk_any mA cA mk cl mc cc bg w hR hat).mono ?_
  rintro e w' ⟨⟨mA', mc', cA', cc', cl', rfl, h1, h2, h3⟩, hb⟩
  refine ⟨⟨0, mA', cA', none, mc', cc', 0⟩, by rw [key_len h2], ⟨cl', h1, h2, h3⟩, hb⟩
/-- A least book. -/
def LeastOf (mk : List ByteArray) (cl : List Cl) (b : Nat) (clx : List Cl) : Prop := ∃ ca, RightB mk b ca ∧ ca.map Cl.key = cl.map Cl.key ∧ clx.map Cl.key = (d2C mk.length ca b).map (clL mk.length ca b)
theorem LeastOf.right {mk : List ByteArray} {cl clx : List Cl} {b : Nat} (h : LeastOf mk cl b clx) : RightB mk ((0 : Nat) : Int) clx := by
  obtain ⟨ca, h1, h2, h3⟩ := h
  exact least_right h1 h3
theorem LeastOf.dist {mk : List ByteArray} {cl clx : List Cl} {b : Nat} (h : LeastOf mk cl b clx) : distC mk.length cl clx b 0 = none := by
  obtain ⟨ca, h1, h2, h3⟩ := h
  rw [← distC_key h2 rfl]
  exact dist_least h1 h3
theorem LeastOf.dists {mk : List ByteArray} {cl clx cl2 clx2 : List Cl} {b b2 : Nat} (h : LeastOf mk cl b clx) (h' : LeastOf mk cl2 b2 clx2) : distC mk.length clx clx2 0 0 = distC mk.length cl cl2 b b2 := by
  obtain ⟨ca, h1, h2, h3⟩ := h
  obtain ⟨cb, g1, g2, g3⟩ := h'
  rw [← distC_key h2 g2]
  exact dist_leasts h1 g1 h3 g3
theorem LeastOf.lens {mk : List ByteArray} {cl clx cl2 clx2 : List Cl} {b b2 : Nat} (h : LeastOf mk cl b clx) (h' : LeastOf mk cl2 b2 clx2) (hd : distC mk.length cl cl2 b b2 = none) : clx.length = clx2.length := by
  obtain ⟨ca, h1, h2, h3⟩ := h
  obtain ⟨cb, g1, g2, g3⟩ := h'
  rw [← distC_key h2 g2] at hd
  exact lens_leasts h1 g1 h3 g3 hd
theorem LeastOf.rank {mk : List ByteArray} {cl clx : List Cl} {b : Nat} (h : LeastOf mk cl b clx) {u : List Nat} (hu : valid mk.length u) : rkS (clN cl (runW (nxC cl) b u)) = rkS (clN clx (runW (nxC clx) 0 u)) := by
  obtain ⟨ca, h1, h2, h3⟩ := h
  rw [← clN_key h2, ← nxC_key h2]
  exact rank_same h1 h3 hu
theorem checkP {mk : List ByteArray} {bg : Int} {cl : List Cl} {h : Gh} {x : World} (hR : RightB mk bg cl) (hat : BkAt x h.a1 mk h.a2 cl) (hc : mk.length ≤ h.c1) : ∀ W, Below x.heap.size x W → Calls Tryz.prog 53 #[.agg #[.slice (h).a1 mk.length (h).c1, .int .i64 (bg), .slice (h).a2 cl.length (h).c2]] W fun e w' => e = .returned (.tuple #[.int .i64 0, .int .i64 0]) ∧ Below W.heap.size W w' :=
  fun W hb => checkBook_ok h.a1 h.a2 mk cl h.c1 h.c2 bg W hR (hat.below hb) hc
theorem leastP_any (mk : List ByteArray) (cl : List Cl) (b : Nat) (h : Gh) (w : World) (hR : RightB mk b cl) (hc : CopyP mk cl h w) :
    Calls Tryz.prog 8 #[.agg #[.slice (h).a1 mk.length (h).c1, .int .i64 (b), .slice (h).a2 cl.length (h).c2]] w fun e w' => (∃ (h' : Gh) (clx : List Cl), e = .returned (.tuple #[.agg #[.slice h'.a1 mk.length h'.c1, .int .i64 0, .slice h'.a2 clx.length h'.c2], .int .i64 0]) ∧ BkAt w' h'.a1 mk h'.a2 clx ∧ LeastOf mk cl b clx) ∧ Below w.heap.size w w' := by
  obtain ⟨cl', h1, h2, h3⟩ := hc
  have hR' := right_key h2 hR
  rw [← key_len h2]
  refine (least_any h.a1 h.a2 mk cl' h.c1 h.c2 b w hR' h1 (checkP hR' h1 h3)).mono ?_
  rintro e w' ⟨⟨mA, mc, cA, cc, clx, rfl, g1, g2⟩, hb⟩
  exact ⟨⟨⟨0, mA, cA, none, mc, cc, 0⟩, clx, rfl, g1, cl', hR', h2, g2⟩, hb⟩
def dU (o : Option (List Nat)) : List Nat := o.getD []
def dE : Option (List Nat) → Int
  | some _ => 0
  | none => 12
theorem distP_any (mk : List ByteArray) (cl cl2 : List Cl) (b b2 : Nat) (h h2 : Gh) (w : World) (hR : RightB mk b cl) (hR2 : RightB mk b2 cl2) (hc : CopyP mk cl h w) (hc2 : CopyP mk cl2 h2 w) :
    Calls Tryz.prog 10 #[.agg #[.slice (h).a1 mk.length (h).c1, .int .i64 (b), .slice (h).a2 cl.length (h).c2], .agg #[.slice (h2).a1 mk.length (h2).c1, .int .i64 (b2), .slice (h2).a2 cl2.length (h2).c2]] w fun e w' => (∃ g : Gh, e = .returned (.tuple #[.slice g.a1 (dU (distC mk.length cl cl2 b b2)).length g.c1, .int .i64 (dE (distC mk.length cl cl2 b b2))]) ∧ At 1 Nc w' g.a1 (dU (distC mk.length cl cl2 b b2))) ∧ Below w.heap.size w w' := by
  obtain ⟨cl', h1, hk, h3⟩ := hc
  obtain ⟨cl2', g1, gk, g3⟩ := hc2
  have hR' := right_key hk hR
  have hR2' := right_key gk hR2
  rw [← key_len hk, ← key_len gk, ← distC_key hk gk]
  refine (dist_any h.a1 h.a2 h2.a1 h2.a2 mk cl' cl2' h.c1 h.c2 h2.c1 h2.c2 b b2 w hR' h1 hR2' g1 (checkP hR' h1 h3) (checkP hR2' g1 g3)).mono ?_
  rintro e w' ⟨hd, hb⟩
  refine ⟨?_, hb⟩
  unfold DistGot at hd
  cases ho : distC mk.length cl' cl2' b b2 with
  | none =>
    rw [ho] at hd
    exact ⟨Gh.zero, hd, fun k x hx => by simp [dU] at hx⟩
  | some u =>
    rw [ho] at hd
    obtain ⟨A, c, he, hA⟩ := hd
    exact ⟨⟨0, A, none, none, c, 0, 0⟩, he, hA⟩
theorem classP_any (mk : List ByteArray) (cl : List Cl) (b : Nat) (h : Gh) (A : Option Addr) (u : List Nat) (c : Nat) (w : World) (hR : RightB mk b cl) (hc : CopyP mk cl h w) (hul : u.length ≤ 40) (hau : At 1 Nc w A u) (hu : ∀ a ∈ u, a < mk.length) :
    Calls Tryz.prog 16 #[.agg #[.slice (h).a1 mk.length (h).c1, .int .i64 (b), .slice (h).a2 cl.length (h).c2], .agg #[.string ⟨#[98, 117, 116, 116]⟩, .slice A u.length c]] w fun e w' => e = .returned (.tuple #[.string (clN cl (runW (nxC cl) b u)), .int .i64 0]) ∧ Below w.heap.size w w' := by
  obtain ⟨cl', h1, hk, h3⟩ := hc
  have hR' := right_key hk hR
  rw [← key_len hk, ← nxC_key hk, ← clN_key hk]
  exact classOf_ok h.a1 h.a2 mk cl' h.c1 h.c2 b ⟨#[98, 117, 116, 116]⟩ A u c w hR' h1 h3 (by decide) (by decide +kernel) hul hau hu
theorem at_natC {w : World} {A : Option Addr} {u : List Nat} (h : At 1 Ic w A (u.map fun (a : Nat) => (a : Int))) : At 1 Nc w A u := by
  intro k x hx
  obtain ⟨b, o, hA, hb, hc⟩ := h k (x : Int) (by rw [List.getElem?_map, hx]; rfl)
  exact ⟨b, o, hA, hb, fun j v hv => hc j v hv⟩
theorem nat_list {n : Nat} : ∀ (l : List Int), (∀ x ∈ l, 0 ≤ x ∧ x ≤ (n : Int) - 1) → ∃ u : List Nat, l = u.map (fun (a : Nat) => (a : Int)) ∧ ∀ a ∈ u, a < n
  | [], _ => ⟨[], rfl, fun a ha => by cases ha⟩
  | x :: l, h => by
    obtain ⟨u, rfl, hu⟩ := nat_list l fun y hy => h y (List.mem_cons_of_mem _ hy)
    have hx := h x (List.mem_cons_self ..)
    refine ⟨x.toNat :: u, by rw [List.map_cons]; congr 1; omega, fun a ha => ?_⟩
    rcases List.mem_cons.1 ha with rfl | ha
    · omega
    · exact hu a ha
theorem rank_len {mk : List ByteArray} {bg : Int} {cl : List Cl} (hR : RightB mk bg cl) {s : Nat} (hs : s < cl.length) : (clN cl s).size ≤ 1000000 := by
  unfold clN
  rw [List.getElem?_eq_getElem hs]
  dsimp only
  have h := hR.nm _ (List.getElem_mem hs)
  unfold nameB at h
  simp only [Bool.and_eq_true, decide_eq_true_eq] at h
  have e : (cl[s]).nm.data.toList.length = (cl[s]).nm.size := by simp
  omega
theorem push_len {S : Type} [DecidableEq S] (next : S → Nat → S) (s : S) (u : List Nat) (L : Nat) (hu : u.length ≤ L) : ∀ (k : Nat) (seen : List S) (q : List (S × List Nat)), (∀ p ∈ q, p.2.length ≤ L + 1) → ∀ p ∈ (push next s u seen q k).2, p.2.length ≤ L + 1
  | 0, seen, q, hq, p, hp => hq p hp
  | k + 1, seen, q, hq, p, hp => by
    unfold push at hp
    dsimp only at hp
    split at hp
    · exact push_len next s u L hu k seen q hq p hp
    · rcases List.mem_append.1 hp with hp | hp
      · exact push_len next s u L hu k seen q hq p hp
      · rw [List.mem_singleton] at hp
        subst hp
        simp
        omega
theorem bfs_len {S : Type} [DecidableEq S] (next : S → Nat → S) (m : Nat) : ∀ (f L : Nat) (seen : List S) (q : List (S × List Nat)), (∀ p ∈ q, p.2.length ≤ L) → ∀ p ∈ bfs next m f seen q, p.2.length ≤ L + f
  | 0, L, seen, q, hq, p, hp => by cases hp
  | f + 1, L, seen, [], hq, p, hp => by cases hp
  | f + 1, L, seen, (s, u) :: q, hq, p, hp => by
    unfold bfs at hp
    dsimp only at hp
    rcases List.mem_cons.1 hp with rfl | hp
    · have := hq _ (List.mem_cons_self ..)
      omega
    · have h1 := push_len next s u L (hq _ (List.mem_cons_self ..)) m seen q (fun p hp => by have := hq p (List.mem_cons_of_mem _ hp); omega)
      have := bfs_len next m f (L + 1) _ _ h1 p hp
      omega
theorem dU_len {mk : List ByteArray} {bg bg2 : Int} {cl cl2 : List Cl} (hR : RightB mk bg cl) (hR2 : RightB mk bg2 cl2) (m b b2 : Nat) : (dU (distC m cl cl2 b b2)).length ≤ 64 := by
  have hl : (pairsU cl.length cl2.length).length ≤ 64 := by
    have e : (pairsU cl.length cl2.length).length = cl.length * cl2.length := by
      unfold pairsU
      rw [List.length_flatMap]
      have : ∀ n k : Nat, ((List.range n).map fun i => ((List.range k).map fun j => (i, j)).length).sum = n * k := by
        intro n k
        induction n with
        | zero => simp
        | succ n ih => rw [List.range_succ, List.map_append, List.sum_append_nat, ih, Nat.succ_mul]; simp
      exact this _ _
    rw [e]
    exact Nat.mul_le_mul hR.c1.2 hR2.c1.2
  unfold distC
  cases ho : (bfsB (bothC cl cl2) m (b, b2) (pairsU cl.length cl2.length).length).find? fun p => dif cl cl2 p.1 with
  | none => simp [dU]
  | some p =>
    have := bfs_len (bothC cl cl2) m _ 0 _ _ (fun p hp => by rw [List.mem_singleton] at hp; subst hp; simp) p (List.mem_of_find?_eq_some ho)
    simp only [Option.map_some, dU, Option.getD_some]
    omega
theorem intsP_any (U : List Nat) (A A2 : Option Addr) (c c2 : Nat) (w : World) (hl : U.length ≤ 64) (h : At 1 Nc w A U) (h2 : At 1 Nc w A2 U) :
    Calls Tryz.prog 11 #[.slice A U.length c, .slice A2 U.length c2] w fun e w' => e = .returned (.bool true) ∧ Below w.heap.size w w' := by
  have := ints_any A A2 (U.map fun (a : Nat) => (a : Int)) (U.map fun (a : Nat) => (a : Int)) c c2 w (by rw [List.length_map]; omega) (by rw [List.length_map]; omega) (at_int h) (at_int h2)
  rw [List.length_map] at this
  have e : ((U.map fun (a : Nat) => (a : Int)) == (U.map fun (a : Nat) => (a : Int))) = true := by simp
  rw [e] at this
  exact this
end Go.Proofs

set_option linter.unusedSimpArgs false
set_option linter.unusedVariables false
namespace Go.Proofs
open Go.RowKit

def SizesB (mk : List ByteArray) (cl : List Cl) : Prop := (∀ s ∈ mk, s.size ≤ maxLen) ∧ ∀ y ∈ cl, y.nm.size ≤ maxLen ∧ y.nx.length ≤ maxLen ∧ y.rs.length ≤ maxLen ∧ ∀ s ∈ y.rs, s.size ≤ maxLen
theorem tl_inj : ∀ {a b : List ByteArray}, tl a = tl b → a = b
  | [], [], _ => rfl
  | [], _ :: _, h => by simp [tl] at h
  | _ :: _, [], h => by simp [tl] at h
  | x :: a, y :: b, h => by
    simp only [tl, List.map_cons, List.cons.injEq] at h
    obtain ⟨h1, h2⟩ := h
    rw [ByteArray.toList_eq, ByteArray.toList_eq] at h1
    rw [ByteArray.ext (Array.toList_inj.1 h1), tl_inj h2]
set_option maxRecDepth 100000 in
set_option maxHeartbeats 20000000 in
theorem taste_walk (w : World) (mA cA mA2 cA2 : Option Addr) (mk mk2 : List ByteArray) (cl cl2 : List Cl) (mc cc mc2 cc2 : Nat) (bg bg2 : Int) (hat : BkAt w mA mk cA cl) (hmc : mk.length ≤ mc) (hsz : SizesB mk cl)
    (hat2 : BkAt w mA2 mk2 cA2 cl2) (hmc2 : mk2.length ≤ mc2) (hsz2 : SizesB mk2 cl2) (hml : mk.length ≤ maxLen) (hml2 : mk2.length ≤ maxLen) (B : Option Addr) (l : List Int) (cB : Nat) (hatl : At 1 Ic w B l) :
    Calls Tryz.prog 3 #[.agg #[.slice mA mk.length mc, .int .i64 bg, .slice cA cl.length cc], .agg #[.slice mA2 mk2.length mc2, .int .i64 bg2, .slice cA2 cl2.length cc2], .slice B l.length cB] w fun e w' => e = .returned (.bool true) ∧ Below w.heap.size w w' := by
  unfold SizesB maxLen at hsz hsz2
  unfold maxLen at hml hml2
  have hT := Lib.hid fun W => tasted_any W
  have hF1 := Lib.hid fun W (hb : Below w.heap.size w W) => few_any mA cA mk cl mc cc bg W (hat.below hb) hsz.1 hsz.2
  have hF2 := Lib.hid fun W (hb : Below w.heap.size w W) => few_any mA2 cA2 mk2 cl2 mc2 cc2 bg2 W (hat2.below hb) hsz2.1 hsz2.2
  have hE1 := Lib.hid fun (hf : FewB mk cl) W (hb : Below w.heap.size w W) => bookErr_any mA cA mk cl mc cc bg W (by have := hf.m; omega) (by have := hf.c; omega) hmc (hat.below hb) hsz.1 (fun y hy => ⟨(hsz.2 y hy).1, by have := (hf.y y hy).2.1; omega, by have := (hf.y y hy).2.2.1; omega, (hsz.2 y hy).2.2.2⟩)
  have hE2 := Lib.hid fun (hf : FewB mk2 cl2) W (hb : Below w.heap.size w W) => bookErr_any mA2 cA2 mk2 cl2 mc2 cc2 bg2 W (by have := hf.m; omega) (by have := hf.c; omega) hmc2 (hat2.below hb) hsz2.1 (fun y hy => ⟨(hsz2.2 y hy).1, by have := (hf.y y hy).2.1; omega, by have := (hf.y y hy).2.2.1; omega, (hsz2.2 y hy).2.2.2⟩)
  have hS := Lib.hid fun W (hb : Below w.heap.size w W) => sameMarks_any mA cA mA2 cA2 mk mk2 cl.length cl2.length mc cc mc2 cc2 bg bg2 W hml hml2 (hat.mks.below hb) (hat2.mks.below hb)
  have hat' := Lib.hid hat
  have hat2' := Lib.hid hat2
  have hatl' := Lib.hid hatl
  have hmc' := Lib.hid hmc
  have hmc2' := Lib.hid hmc2
  clear hat hat2 hatl hsz hsz2 hmc hmc2 hml hml2
  go_enter Tryz.func3, Tryz.ntmps3
  go_wp2_with (go_at_call 4; refine (hT.out _).mono ?_; rintro e w1 ⟨rfl, hb⟩; have hbw := via (by go_grown : Below w.heap.size w _) hb; have B0 : w1.heap[w.heap.size]? = some (.cells #[.slice mA mk.length mc, .int .i64 bg, .slice cA cl.length cc] 25 (0, 0)) := bk_keep hb (by (repeat (first | assumption | (refine bk_new _ _ ?_; (simp; done)) | refine bk_drew ?_ | refine bk_alloc ?_ _ | refine bk_set ?_ (by simp <;> omega) _))); have B1 : w1.heap[w.heap.size + 1]? = some (.cells #[.slice mA2 mk2.length mc2, .int .i64 bg2, .slice cA2 cl2.length cc2] 25 (0, 0)) := bk_keep hb (by (repeat (first | assumption | (refine bk_new _ _ ?_; (simp; done)) | refine bk_drew ?_ | refine bk_alloc ?_ _ | refine bk_set ?_ (by simp <;> omega) _))); have C0 := bk3 B0; have C1 := bk3 B1)
  refine (hF1.out _ hbw).mono ?_
  rintro e w2 ⟨⟨r, rfl, hr⟩, hb⟩
  (replace hbw := via hbw hb; replace B0 := bk_keep hb B0; replace B1 := bk_keep hb B1; replace C0 := bk3 B0; replace C1 := bk3 B1)
  cases r with
  | false =>
    clear hr
    go_wp2_with fail
    refine bodyPost_ret (v := .bool true) ?_ rfl ⟨rfl, hbw⟩
    simp [results, Tryz.results3, go_sem]
  | true =>
  have hf1 := hr rfl
  clear hr
  go_wp2_with fail
  refine (hF2.out _ hbw).mono ?_
  clear hb
  rintro e w3 ⟨⟨r, rfl, hr⟩, hb⟩
  (replace hbw := via hbw hb; replace B0 := bk_keep hb B0; replace B1 := bk_keep hb B1; replace C0 := bk3 B0; replace C1 := bk3 B1)
  cases r with
  | false =>
    clear hr
    go_wp2_with fail
    refine bodyPost_ret (v := .bool true) ?_ rfl ⟨rfl, hbw⟩
    simp [results, Tryz.results3, go_sem]
  | true =>
  have hf2 := hr rfl
  clear hr hF1 hF2 hT hb
  by_cases h12 : 12 < (l.length : Int)
  · go_wp2_with fail
    refine bodyPost_ret (v := .bool true) ?_ rfl ⟨rfl, hbw⟩
    simp [results, Tryz.results3, go_sem]
  go_wp2_with fail
  refine (hE1.out hf1 _ hbw).mono ?_
  rintro e w4 ⟨⟨d, rfl, hd⟩, hb⟩
  (replace hbw := via hbw hb; replace B0 := bk_keep hb B0; replace B1 := bk_keep hb B1; replace C0 := bk3 B0; replace C1 := bk3 B1)
  by_cases hd0 : d ≠ 0
  · have hz : (d != 0) = true := by simpa using hd0
    clear hd
    go_wp2_with fail
    refine bodyPost_ret (v := .bool true) ?_ rfl ⟨rfl, hbw⟩
    simp [results, Tryz.results3, go_sem]
  obtain rfl : d = 0 := Decidable.not_not.1 hd0
  clear hd0
  have hR := hd rfl
  clear hd hb
  go_wp2_with fail
  refine (hE2.out hf2 _ hbw).mono ?_
  rintro e w5 ⟨⟨d, rfl, hd⟩, hb⟩
  (replace hbw := via hbw hb; replace B0 := bk_keep hb B0; replace B1 := bk_keep hb B1; replace C0 := bk3 B0; replace C1 := bk3 B1)
  by_cases hd0 : d ≠ 0
  · have hz : (d != 0) = true := by simpa using hd0
    clear hd
    go_wp2_with fail
    refine bodyPost_ret (v := .bool true) ?_ rfl ⟨rfl, hbw⟩
    simp [results, Tryz.results3, go_sem]
  obtain rfl : d = 0 := Decidable.not_not.1 hd0
  clear hd0
  have hR2 := hd rfl
  clear hd hb hE1 hE2 hf1 hf2
  go_wp2_with fail
  refine (hS.out _ hbw).mono ?_
  rintro e w6 ⟨rfl, hb⟩
  (replace hbw := via hbw hb; replace B0 := bk_keep hb B0; replace B1 := bk_keep hb B1; replace C0 := bk3 B0; replace C1 := bk3 B1)
  clear hS hb
  cases hsm : tl mk == tl mk2 with
  | false =>
    go_wp2_with fail
    refine bodyPost_ret (v := .bool true) ?_ rfl ⟨rfl, hbw⟩
    simp [results, Tryz.results3, go_sem]
  | true =>
  have hmk : mk = mk2 := tl_inj (by simpa using hsm)
  subst hmk
  clear hsm
  obtain ⟨b, rfl⟩ : ∃ b : Nat, bg = b := ⟨bg.toNat, by have := hR.bg; omega⟩
  obtain ⟨b2, rfl⟩ : ∃ b : Nat, bg2 = b := ⟨bg2.toNat, by have := hR2.bg; omega⟩
  have hR' := Lib.hid hR
  have hR2' := Lib.hid hR2
  have hCa := Lib.hid fun W (hb : Below w.heap.size w W) => copyP_any mA cA mk cl mc cc b W hR (hat'.out.below hb)
  have hCb := Lib.hid fun W (hb : Below w.heap.size w W) => copyP_any mA2 cA2 mk cl2 mc2 cc2 b2 W hR2 (hat2'.out.below hb)
  have hLa := Lib.hid fun (h : Gh) W (hc : CopyP mk cl h W) => leastP_any mk cl b h W hR hc
  have hLb := Lib.hid fun (h : Gh) W (hc : CopyP mk cl2 h W) => leastP_any mk cl2 b2 h W hR2 hc
  clear hR hR2
  go_wp2_with (go_at_call 9; refine (hCa.out _ hbw).mono ?_; rintro e w7 ⟨h7, rfl, hc7, hb⟩; (replace hbw := via hbw hb; replace B0 := bk_keep hb B0; replace B1 := bk_keep hb B1; replace C0 := bk3 B0; replace C1 := bk3 B1))
  refine (hLa.out _ _ hc7).mono ?_
  rintro e w8 ⟨⟨hx, clx, rfl, hxat, hxl⟩, hb⟩
  (replace hbw := via hbw hb; replace B0 := bk_keep hb B0; replace B1 := bk_keep hb B1; replace C0 := bk3 B0; replace C1 := bk3 B1)
  go_wp2_with fail
  refine (hCb.out _ (via_alloc hbw _)).mono ?_
  rintro e w9 ⟨h9, rfl, hc9, hb⟩
  have B2 : w9.heap[w8.heap.size]? = some (.cells #[.slice hx.a1 mk.length hx.c1, .int .i64 0, .slice hx.a2 clx.length hx.c2] 25 (0, 0)) := bk_keep hb (bk_new _ _ rfl)
  replace B0 := bk_keep hb (bk_alloc B0 _)
  replace B1 := bk_keep hb (bk_alloc B1 _)
  replace hxat := (hxat.below (new_below _ _)).below hb
  replace hbw := via (via_alloc hbw _) hb
  obtain ⟨X, hX⟩ : ∃ X, w8.heap.size = X := ⟨_, rfl⟩
  rw [hX] at B2 ⊢
  clear hX hb hc7 hLa C0 C1
  have C0 := bk3 B0
  have C1 := bk3 B1
  have C2 := bk3 B2
  go_wp2_with fail
  refine (hLb.out _ _ hc9).mono ?_
  rintro e w10 ⟨⟨hy, cly, rfl, hyat, hyl⟩, hb⟩
  (replace hbw := via hbw hb; replace B0 := bk_keep hb B0; replace B1 := bk_keep hb B1; replace B2 := bk_keep hb B2; replace C0 := bk3 B0; replace C1 := bk3 B1; replace C2 := bk3 B2; replace hxat := hxat.below hb)
  go_wp2_with fail
  have B3 := bk_new w10 (.cells #[.slice hy.a1 mk.length hy.c1, .int .i64 0, .slice hy.a2 cly.length hy.c2] 25 (0, 0)) rfl
  replace B0 := bk_alloc B0 (.cells #[.slice hy.a1 mk.length hy.c1, .int .i64 0, .slice hy.a2 cly.length hy.c2] 25 (0, 0))
  replace B1 := bk_alloc B1 (.cells #[.slice hy.a1 mk.length hy.c1, .int .i64 0, .slice hy.a2 cly.length hy.c2] 25 (0, 0))
  replace B2 := bk_alloc B2 (.cells #[.slice hy.a1 mk.length hy.c1, .int .i64 0, .slice hy.a2 cly.length hy.c2] 25 (0, 0))
  replace hxat := hxat.below (new_below w10 (.cells #[.slice hy.a1 mk.length hy.c1, .int .i64 0, .slice hy.a2 cly.length hy.c2] 25 (0, 0)))
  replace hyat := hyat.below (new_below w10 (.cells #[.slice hy.a1 mk.length hy.c1, .int .i64 0, .slice hy.a2 cly.length hy.c2] 25 (0, 0)))
  replace hbw := via_alloc hbw (.cells #[.slice hy.a1 mk.length hy.c1, .int .i64 0, .slice hy.a2 cly.length hy.c2] 25 (0, 0))
  obtain ⟨Y, hY⟩ : ∃ Y, w10.heap.size = Y := ⟨_, rfl⟩
  obtain ⟨V, hV⟩ : ∃ V, w10.alloc (.cells #[.slice hy.a1 mk.length hy.c1, .int .i64 0, .slice hy.a2 cly.length hy.c2] 25 (0, 0)) = V := ⟨_, rfl⟩
  rw [hV] at B0 B1 B2 B3 hxat hyat hbw ⊢
  rw [hY] at B3 ⊢
  clear hV hY hb hc9 hLb C0 C1 C2 hmc' hmc2'
  have hME := Lib.hid fun W (hb : Below w.heap.size w W) => marksErr_any mA cA mk.length mc cl.length cc b B l cB W (by have := hR'.out.m1; omega) (by omega) (hatl'.out.below hb)
  have hCI := Lib.hid fun W (hb : Below w.heap.size w W) => copyInts_at B l cB W (by omega) (hatl'.out.below hb)
  have hl12 := Lib.hid h12
  clear hatl' h12
  have hRx := Lib.hid hxl.right
  have hRy := Lib.hid hyl.right
  have hCx := Lib.hid fun W (h : BkAt W hx.a1 mk hx.a2 clx) => copyP_any hx.a1 hx.a2 mk clx hx.c1 hx.c2 0 W hRx.out h
  have hCy := Lib.hid fun W (h : BkAt W hy.a1 mk hy.a2 cly) => copyP_any hy.a1 hy.a2 mk cly hy.c1 hy.c2 0 W hRy.out h
  have hD1 := Lib.hid fun h h2 W (h3 : CopyP mk cl h W) (h4 : CopyP mk clx h2 W) => distP_any mk cl clx b 0 h h2 W hR'.out hRx.out h3 h4
  rw [hxl.dist] at hD1
  apply region_ccq w 1 3 4 (fun h => .agg #[.slice (h).a1 mk.length (h).c1, .int .i64 (b), .slice (h).a2 cl.length (h).c2]) (fun h => .agg #[.slice (h).a1 mk.length (h).c1, .int .i64 (0), .slice (h).a2 clx.length (h).c2]) (fun h => .tuple #[.slice h.a1 0 h.c1, .int .i64 12]) (CopyP mk cl) (CopyP mk clx) (fun _ _ => True)
  case hm => kernel_rfl
  case hB => kernel_rfl
  case hB' => intro g; kernel_rfl
  case hS => kernel_rfl
  case hN => kernel_rfl
  case hne => decide
  case ht => kernel_rfl
  case hw => exact hbw
  case hs1 => exact fun _ _ _ h hb => h.below hb
  case hs2 => exact fun _ _ _ h hb => h.below hb
  case hs3 => exact fun _ _ _ _ _ => trivial
  case hq =>
    intro g u hu hgc hbx hbX
    have D0 := bk3 (bk_keep hu B0)
    have D2 := bk3 (bk_keep hu B2)
    simp only [mixL, yieldsC, List.contains_cons, List.contains_nil, Nat.reduceAdd, Nat.reduceBEq, Nat.zero_add, Bool.or_false, Bool.or_true, Bool.false_or, Bool.true_or, Bool.false_eq_true, if_true, if_false, Bool.or_self]
    repeat (go_big_quiet_step (fail))
    exact wpQuiet_nil rfl
  case hind => intro j hj; simp only [List.mem_cons, List.not_mem_nil, or_false] at hj; rcases hj with rfl | rfl | rfl <;> (intro g h; kernel_rfl)
  case hcp =>
    intro o ho g x hx hw
    simp only [List.getElem?_cons_succ, List.getElem?_cons_zero, Option.some.injEq] at ho
    subst ho
    exact ⟨9, #[.agg #[.slice mA mk.length mc, .int .i64 b, .slice cA cl.length cc]], by kernel_rfl, hCa.out x hw⟩
  case hdp =>
    intro o ho g x hx2 hw
    simp only [List.getElem?_cons_succ, List.getElem?_cons_zero, Option.some.injEq] at ho
    subst ho
    exact ⟨9, #[.agg #[.slice (hx).a1 mk.length (hx).c1, .int .i64 (0), .slice (hx).a2 clx.length (hx).c2]], by kernel_rfl, hCx.out x (hxat.below hx2)⟩
  case hcl =>
    intro o ho g x hx2 hw h1 h2
    simp only [List.getElem?_cons_succ, List.getElem?_cons_zero, Option.some.injEq] at ho
    subst ho
    exact ⟨10, #[.agg #[.slice ((g 1)).a1 mk.length ((g 1)).c1, .int .i64 (b), .slice ((g 1)).a2 cl.length ((g 1)).c2], .agg #[.slice ((g 3)).a1 mk.length ((g 3)).c1, .int .i64 (0), .slice ((g 3)).a2 clx.length ((g 3)).c2]], by kernel_rfl, (hD1.out _ _ x h1 h2).mono fun e x' ⟨⟨h, he, _⟩, hb⟩ => ⟨h, he, trivial, hb⟩⟩
  case hend =>
  intro g u hu hbu _
  (replace B0 := bk_keep hu B0; replace B1 := bk_keep hu B1; replace B2 := bk_keep hu B2; replace B3 := bk_keep hu B3; replace hxat := hxat.below hu; replace hyat := hyat.below hu; replace hbw := hbu)
  clear hu hbu hD1
  go_wp2_with fail
  have hD2 := Lib.hid fun h h2 W (h3 : CopyP mk cl h W) (h4 : CopyP mk cl2 h2 W) => distP_any mk cl cl2 b b2 h h2 W hR'.out hR2'.out h3 h4
  have hD3 := Lib.hid fun h h2 W (h3 : CopyP mk clx h W) (h4 : CopyP mk cly h2 W) => distP_any mk clx cly 0 0 h h2 W hRx.out hRy.out h3 h4
  rw [hxl.dists hyl] at hD3
  have hlen := Lib.hid (hxl.lens hyl)
  have hU := dU_len hR'.out hR2'.out mk.length b b2
  generalize distC mk.length cl cl2 b b2 = o at *
  generalize hUe : dU o = U at *
  generalize hEe : dE o = E at *
  apply region_ccq w 1 3 4 (fun h => .agg #[.slice (h).a1 mk.length (h).c1, .int .i64 (b), .slice (h).a2 cl.length (h).c2]) (fun h => .agg #[.slice (h).a1 mk.length (h).c1, .int .i64 (b2), .slice (h).a2 cl2.length (h).c2]) (fun h => .tuple #[.slice h.a1 U.length h.c1, .int .i64 E]) (CopyP mk cl) (CopyP mk cl2) (fun h x => At 1 Nc x h.a1 U)
  case hm => kernel_rfl
  case hB => kernel_rfl
  case hB' => intro g; kernel_rfl
  case hS => kernel_rfl
  case hN => kernel_rfl
  case hne => decide
  case ht => kernel_rfl
  case hw => exact hbw
  case hs1 => exact fun _ _ _ h hb => h.below hb
  case hs2 => exact fun _ _ _ h hb => h.below hb
  case hs3 => exact fun _ _ _ h hb => h.below hb
  case hq =>
    intro g u hu hgc hbx hbX
    have D0 := bk3 (bk_keep hu B0)
    have D1 := bk3 (bk_keep hu B1)
    simp only [mixL, yieldsC, List.contains_cons, List.contains_nil, Nat.reduceAdd, Nat.reduceBEq, Nat.zero_add, Bool.or_false, Bool.or_true, Bool.false_or, Bool.true_or, Bool.false_eq_true, if_true, if_false, Bool.or_self]
    repeat (go_big_quiet_step (fail))
    exact wpQuiet_nil rfl
  case hind => intro j hj; simp only [List.mem_cons, List.not_mem_nil, or_false] at hj; rcases hj with rfl | rfl | rfl <;> (intro g h; kernel_rfl)
  case hcp =>
    intro o ho g x hx hw
    simp only [List.getElem?_cons_succ, List.getElem?_cons_zero, Option.some.injEq] at ho
    subst ho
    exact ⟨9, #[.agg #[.slice mA mk.length mc, .int .i64 b, .slice cA cl.length cc]], by kernel_rfl, hCa.out x hw⟩
  case hdp =>
    intro o ho g x hx2 hw
    simp only [List.getElem?_cons_succ, List.getElem?_cons_zero, Option.some.injEq] at ho
    subst ho
    exact ⟨9, #[.agg #[.slice mA2 mk.length mc2, .int .i64 b2, .slice cA2 cl2.length cc2]], by kernel_rfl, hCb.out x hw⟩
  case hcl =>
    intro o ho g x hx2 hw h1 h2
    simp only [List.getElem?_cons_succ, List.getElem?_cons_zero, Option.some.injEq] at ho
    subst ho
    exact ⟨10, #[.agg #[.slice ((g 1)).a1 mk.length ((g 1)).c1, .int .i64 (b), .slice ((g 1)).a2 cl.length ((g 1)).c2], .agg #[.slice ((g 3)).a1 mk.length ((g 3)).c1, .int .i64 (b2), .slice ((g 3)).a2 cl2.length ((g 3)).c2]], by kernel_rfl, (hD2.out _ _ x h1 h2).mono fun e x' ⟨⟨h, he, hh⟩, hb⟩ => ⟨h, he, hh, hb⟩⟩
  case hend =>
  intro g12 u hu hbu hA12
  (replace B0 := bk_keep hu B0; replace B1 := bk_keep hu B1; replace B2 := bk_keep hu B2; replace B3 := bk_keep hu B3; replace hxat := hxat.below hu; replace hyat := hyat.below hu; replace hbw := hbu)
  clear hu hbu hD2 hCb B1
  go_wp2_with fail
  apply region_ccq w 1 3 4 (fun h => .agg #[.slice (h).a1 mk.length (h).c1, .int .i64 (0), .slice (h).a2 clx.length (h).c2]) (fun h => .agg #[.slice (h).a1 mk.length (h).c1, .int .i64 (0), .slice (h).a2 cly.length (h).c2]) (fun h => .tuple #[.slice h.a1 U.length h.c1, .int .i64 E]) (CopyP mk clx) (CopyP mk cly) (fun h x => At 1 Nc x h.a1 U)
  case hm => kernel_rfl
  case hB => kernel_rfl
  case hB' => intro g; kernel_rfl
  case hS => kernel_rfl
  case hN => kernel_rfl
  case hne => decide
  case ht => kernel_rfl
  case hw => exact hbw
  case hs1 => exact fun _ _ _ h hb => h.below hb
  case hs2 => exact fun _ _ _ h hb => h.below hb
  case hs3 => exact fun _ _ _ h hb => h.below hb
  case hq =>
    intro g u hu hgc hbx hbX
    have D2 := bk3 (bk_keep hu B2)
    have D3 := bk3 (bk_keep hu B3)
    simp only [mixL, yieldsC, List.contains_cons, List.contains_nil, Nat.reduceAdd, Nat.reduceBEq, Nat.zero_add, Bool.or_false, Bool.or_true, Bool.false_or, Bool.true_or, Bool.false_eq_true, if_true, if_false, Bool.or_self]
    repeat (go_big_quiet_step (fail))
    exact wpQuiet_nil rfl
  case hind => intro j hj; simp only [List.mem_cons, List.not_mem_nil, or_false] at hj; rcases hj with rfl | rfl | rfl <;> (intro g h; kernel_rfl)
  case hcp =>
    intro o ho g x hx2 hw
    simp only [List.getElem?_cons_succ, List.getElem?_cons_zero, Option.some.injEq] at ho
    subst ho
    exact ⟨9, #[.agg #[.slice (hx).a1 mk.length (hx).c1, .int .i64 (0), .slice (hx).a2 clx.length (hx).c2]], by kernel_rfl, hCx.out x (hxat.below hx2)⟩
  case hdp =>
    intro o ho g x hx2 hw
    simp only [List.getElem?_cons_succ, List.getElem?_cons_zero, Option.some.injEq] at ho
    subst ho
    exact ⟨9, #[.agg #[.slice (hy).a1 mk.length (hy).c1, .int .i64 (0), .slice (hy).a2 cly.length (hy).c2]], by kernel_rfl, hCy.out x (hyat.below hx2)⟩
  case hcl =>
    intro o ho g x hx2 hw h1 h2
    simp only [List.getElem?_cons_succ, List.getElem?_cons_zero, Option.some.injEq] at ho
    subst ho
    exact ⟨10, #[.agg #[.slice ((g 1)).a1 mk.length ((g 1)).c1, .int .i64 (0), .slice ((g 1)).a2 clx.length ((g 1)).c2], .agg #[.slice ((g 3)).a1 mk.length ((g 3)).c1, .int .i64 (0), .slice ((g 3)).a2 cly.length ((g 3)).c2]], by kernel_rfl, (hD3.out _ _ x h1 h2).mono fun e x' ⟨⟨h, he, hh⟩, hb⟩ => ⟨h, he, hh, hb⟩⟩
  case hend =>
  intro g13 u hu hbu hA13
  replace hA12 := hA12.below hu
  replace B0 := bk_keep hu B0
  replace B2 := bk_keep hu B2
  replace B3 := bk_keep hu B3
  replace hxat := hxat.below hu
  replace hbw := hbu
  clear hu hbu hD3 hCy hyat
  have hI := Lib.hid fun W (hb : Below u.heap.size u W) => intsP_any U (g12 4).a1 (g13 4).a1 (g12 4).c1 (g13 4).c1 W hU (hA12.below hb) (hA13.below hb)
  have hcase : (E = 12 ∧ clx.length = cly.length) ∨ E = 0 := by
    cases o with
    | none => exact .inl ⟨hEe.symm, hlen.out rfl⟩
    | some u => exact .inr hEe.symm
  clear hEe hUe hU hlen hA12 hA13
  have hug := Lib.hid (Below.refl u.heap.size u)
  obtain ⟨N, hN⟩ : ∃ N, l.length = N := ⟨_, rfl⟩
  have hN' := Lib.hid hN
  rw [hN] at hME hCI ⊢
  clear hN
  have C0 := bk3 B0
  have C2 := bk3 B2
  have C3 := bk3 B3
  rcases hcase with ⟨rfl, hll⟩ | rfl
  · have hz : ((clx.length : Int) != (cly.length : Int)) = false := by simp [hll]
    clear hll
    go_wp2_with (go_at_call 11; refine (hI.out _ (Below.refl _ _)).mono ?_; rintro e w14 ⟨rfl, hb⟩; (replace hbw := via hbw hb; replace B0 := bk_keep hb B0; replace B2 := bk_keep hb B2; replace B3 := bk_keep hb B3; replace C0 := bk3 B0; replace C2 := bk3 B2; replace C3 := bk3 B3; replace hxat := hxat.below hb))
    refine (hME.out _ hbw).mono ?_
    rintro e w15 ⟨⟨d, rfl, hd⟩, hb⟩
    (replace hbw := via hbw hb; replace B0 := bk_keep hb B0; replace B2 := bk_keep hb B2; replace B3 := bk_keep hb B3; replace C0 := bk3 B0; replace C2 := bk3 B2; replace C3 := bk3 B3; replace hxat := hxat.below hb)
    by_cases hd0 : d ≠ 0
    · have hz2 : (d != 0) = true := by simpa using hd0
      clear hd
      go_wp2_with fail
      refine bodyPost_ret (v := .bool true) ?_ rfl ⟨rfl, hbw⟩
      simp [results, Tryz.results3, go_sem]
    obtain rfl : d = 0 := Decidable.not_not.1 hd0
    clear hd0
    obtain ⟨h40, hin⟩ := hd rfl
    obtain ⟨us, hlu, hus⟩ := nat_list l hin
    clear hd hin hME hI hb
    have hul : us.length = N := by rw [← hN'.out, hlu, List.length_map]
    have hN12 := hl12.out
    rw [hN'.out] at hN12
    have hu5 : ∀ a ∈ us, a ≤ 5 := fun a ha => by
      have h1 := hus a ha
      have h2 := hR'.out.m1
      omega
    obtain ⟨T, hTx⟩ : ∃ T, butt ++ ⟨#[32]⟩ ++ restB us = T := ⟨_, rfl⟩
    have hFm : Hid (∀ A c W, At 1 Ic W A l → Calls Tryz.prog 14 #[.agg #[.string ⟨#[98, 117, 116, 116]⟩, .slice A N c]] W fun e w' => e = .returned (.string T) ∧ Below W.heap.size W w') := Lib.hid fun A c W h => by
      have := formatSheet_any butt A us c W (at_natC (hlu ▸ h)) (fun a ha => by have := hu5 a ha; omega) (by omega) (by decide)
      rw [hul, hTx] at this
      exact this
    have hPs : Hid (∀ W, Calls Tryz.prog 13 #[.string T] W fun e w' => (∃ A c, e = .returned (.tuple #[.agg #[.string ⟨#[98, 117, 116, 116]⟩, .slice A N c], .int .i64 0]) ∧ At 1 Nc w' A us) ∧ Below W.heap.size W w') := Lib.hid fun W => by
      have := parseSheet_any us hu5 (by omega) W
      rw [hul, hTx] at this
      exact this
    have hKa := Lib.hid fun h A c W (hc : CopyP mk cl h W) (hA : At 1 Nc W A us) => classP_any mk cl b h A us c W hR'.out hc (by omega) hA hus
    have hKx := Lib.hid fun h A c W (hc : CopyP mk clx h W) (hA : At 1 Nc W A us) => classP_any mk clx 0 h A us c W hRx.out hc (by omega) hA hus
    rw [hul] at hKa hKx
    have hrk := hxl.rank hus
    have hl1 := rank_len hR'.out (runW_lt hR'.out us b (bg_lt hR'.out) hus)
    have hl2 := rank_len hRx.out (runW_lt hRx.out us 0 (bg_lt hRx.out) hus)
    generalize clN cl (runW (nxC cl) b us) = S1 at *
    generalize clN clx (runW (nxC clx) 0 us) = S2 at *
    have hRk1 := Lib.hid fun W => refRank_any S1 W hl1
    have hRk2 := Lib.hid fun W => refRank_any S2 W hl2
    rw [← hrk] at hRk2
    generalize rkS S1 = RS at *
    replace hKa := hKa
    clear hTx hul hN12 hlu hu5 hus hrk hl1 hl2 hl12
    go_wp2_with (first
      | (go_at_call 15; refine (hCI.out _ hbw).mono ?_; rintro e w16 ⟨⟨A6, c6, rfl, hA6⟩, hb⟩; (replace hbw := via hbw hb; replace B0 := bk_keep hb B0; replace B2 := bk_keep hb B2; replace B3 := bk_keep hb B3; replace C0 := bk3 B0; replace C2 := bk3 B2; replace C3 := bk3 B3; replace hxat := hxat.below hb))
      | (go_at_call 14; refine (hFm.out _ _ _ hA6).mono ?_; rintro e w17 ⟨rfl, hb⟩; (replace hbw := via hbw hb; replace B0 := bk_keep hb B0; replace B2 := bk_keep hb B2; replace B3 := bk_keep hb B3; replace C0 := bk3 B0; replace C2 := bk3 B2; replace C3 := bk3 B3; replace hxat := hxat.below hb))
      | (go_at_call 13; refine (hPs.out _).mono ?_; rintro e w18 ⟨⟨A8, c8, rfl, hA8⟩, hb⟩; (replace hbw := via hbw hb; replace B0 := bk_keep hb B0; replace B2 := bk_keep hb B2; replace B3 := bk_keep hb B3; replace C0 := bk3 B0; replace C2 := bk3 B2; replace C3 := bk3 B3; replace hxat := hxat.below hb)))
    have B4 := bk_new w18 (.cells #[.string ⟨#[98, 117, 116, 116]⟩, .slice A8 N c8] 40 (0, 0)) rfl
    replace B0 := bk_alloc B0 (.cells #[.string ⟨#[98, 117, 116, 116]⟩, .slice A8 N c8] 40 (0, 0))
    replace B2 := bk_alloc B2 (.cells #[.string ⟨#[98, 117, 116, 116]⟩, .slice A8 N c8] 40 (0, 0))
    replace hxat := hxat.below (new_below w18 (.cells #[.string ⟨#[98, 117, 116, 116]⟩, .slice A8 N c8] 40 (0, 0)))
    replace hA8 := hA8.below (new_below w18 (.cells #[.string ⟨#[98, 117, 116, 116]⟩, .slice A8 N c8] 40 (0, 0)))
    replace hbw := via_alloc hbw (.cells #[.string ⟨#[98, 117, 116, 116]⟩, .slice A8 N c8] 40 (0, 0))
    obtain ⟨Z, hZ⟩ : ∃ Z, w18.heap.size = Z := ⟨_, rfl⟩
    obtain ⟨V2, hV2⟩ : ∃ V2, w18.alloc (.cells #[.string ⟨#[98, 117, 116, 116]⟩, .slice A8 N c8] 40 (0, 0)) = V2 := ⟨_, rfl⟩
    rw [hV2] at B0 B2 B4 hxat hA8 hbw ⊢
    rw [hZ] at B4 ⊢
    clear hV2 hZ hb B3 C0 C2 C3 hFm hPs hCI hA6
    apply region_cpq w 1 3 (fun h => .agg #[.slice (h).a1 mk.length (h).c1, .int .i64 (b), .slice (h).a2 cl.length (h).c2]) (fun _ => .tuple #[.string S1, .int .i64 0]) (CopyP mk cl) (fun _ _ => True)
    case hm => kernel_rfl
    case hB => kernel_rfl
    case hB' => intro g; kernel_rfl
    case hS => kernel_rfl
    case hN => kernel_rfl
    case hne => decide
    case ht => kernel_rfl
    case hw => exact hbw
    case hs1 => exact fun _ _ _ h hb => h.below hb
    case hs2 => exact fun _ _ _ _ _ => trivial
    case hq =>
      intro g u hu hgc hbx hbX
      have D0 := bk3 (bk_keep hu B0)
      have D4 := bk2 (bk_keep hu B4)
      simp only [mixL, yieldsC, List.contains_cons, List.contains_nil, Nat.reduceAdd, Nat.reduceBEq, Nat.zero_add, Bool.or_false, Bool.or_true, Bool.false_or, Bool.true_or, Bool.false_eq_true, if_true, if_false, Bool.or_self]
      repeat (go_big_quiet_step (fail))
      exact wpQuiet_nil rfl
    case hind => intro j hj; simp only [List.mem_cons, List.not_mem_nil, or_false] at hj; rcases hj with rfl | rfl <;> (intro g h; kernel_rfl)
    case hcp =>
      intro o ho g x hx2 hw
      simp only [List.getElem?_cons_succ, List.getElem?_cons_zero, Option.some.injEq] at ho
      subst ho
      exact ⟨9, #[.agg #[.slice mA mk.length mc, .int .i64 b, .slice cA cl.length cc]], by kernel_rfl, hCa.out x hw⟩
    case hcl =>
      intro o ho g x hx2 hw hp
      simp only [List.getElem?_cons_succ, List.getElem?_cons_zero, Option.some.injEq] at ho
      subst ho
      exact ⟨16, #[.agg #[.slice ((g 1)).a1 mk.length ((g 1)).c1, .int .i64 (b), .slice ((g 1)).a2 cl.length ((g 1)).c2], .agg #[.string ⟨#[98, 117, 116, 116]⟩, .slice A8 N c8]], by kernel_rfl, (hKa.out _ _ _ x hp (hA8.below hx2)).mono fun e x' ⟨he, hb⟩ => ⟨Gh.zero, he, trivial, hb⟩⟩
    case hend =>
    intro g21 u2 hu hbu _
    replace B2 := bk_keep hu B2
    replace B4 := bk_keep hu B4
    replace hxat := hxat.below hu
    replace hA8 := hA8.below hu
    replace hbw := hbu
    clear hu hbu hKa B0 hCa
    go_wp2_with fail
    apply region_cpq w 1 3 (fun h => .agg #[.slice (h).a1 mk.length (h).c1, .int .i64 (0), .slice (h).a2 clx.length (h).c2]) (fun _ => .tuple #[.string S2, .int .i64 0]) (CopyP mk clx) (fun _ _ => True)
    case hm => kernel_rfl
    case hB => kernel_rfl
    case hB' => intro g; kernel_rfl
    case hS => kernel_rfl
    case hN => kernel_rfl
    case hne => decide
    case ht => kernel_rfl
    case hw => exact hbw
    case hs1 => exact fun _ _ _ h hb => h.below hb
    case hs2 => exact fun _ _ _ _ _ => trivial
    case hq =>
      intro g u hu hgc hbx hbX
      have D2 := bk3 (bk_keep hu B2)
      have D4 := bk2 (bk_keep hu B4)
      simp only [mixL, yieldsC, List.contains_cons, List.contains_nil, Nat.reduceAdd, Nat.reduceBEq, Nat.zero_add, Bool.or_false, Bool.or_true, Bool.false_or, Bool.true_or, Bool.false_eq_true, if_true, if_false, Bool.or_self]
      repeat (go_big_quiet_step (fail))
      exact wpQuiet_nil rfl
    case hind => intro j hj; simp only [List.mem_cons, List.not_mem_nil, or_false] at hj; rcases hj with rfl | rfl <;> (intro g h; kernel_rfl)
    case hcp =>
      intro o ho g x hx2 hw
      simp only [List.getElem?_cons_succ, List.getElem?_cons_zero, Option.some.injEq] at ho
      subst ho
      exact ⟨9, #[.agg #[.slice (hx).a1 mk.length (hx).c1, .int .i64 (0), .slice (hx).a2 clx.length (hx).c2]], by kernel_rfl, hCx.out x (hxat.below hx2)⟩
    case hcl =>
      intro o ho g x hx2 hw hp
      simp only [List.getElem?_cons_succ, List.getElem?_cons_zero, Option.some.injEq] at ho
      subst ho
      exact ⟨16, #[.agg #[.slice ((g 1)).a1 mk.length ((g 1)).c1, .int .i64 (0), .slice ((g 1)).a2 clx.length ((g 1)).c2], .agg #[.string ⟨#[98, 117, 116, 116]⟩, .slice A8 N c8]], by kernel_rfl, (hKx.out _ _ _ x hp (hA8.below hx2)).mono fun e x' ⟨he, hb⟩ => ⟨Gh.zero, he, trivial, hb⟩⟩
    case hend =>
    intro g22 u3 hu hbu _
    replace hbw := hbu
    clear hu hbu hKx B2 B4 hCx hxat hA8
    go_wp2_with fail
    refine (hRk1.out _).mono ?_
    rintro e w' ⟨rfl, rfl⟩
    go_wp2_with fail
    refine (hRk2.out _).mono ?_
    rintro e w' ⟨rfl, rfl⟩
    go_wp2_with fail
    go_ret
    exact ⟨rfl, hbw⟩
  · go_wp2_with (go_at_call 11; refine (hI.out _ (Below.refl _ _)).mono ?_; rintro e w14 ⟨rfl, hb⟩; (replace hbw := via hbw hb; replace B0 := bk_keep hb B0; replace B2 := bk_keep hb B2; replace B3 := bk_keep hb B3; replace C0 := bk3 B0; replace C2 := bk3 B2; replace C3 := bk3 B3; replace hxat := hxat.below hb))
    refine (hME.out _ hbw).mono ?_
    rintro e w15 ⟨⟨d, rfl, hd⟩, hb⟩
    (replace hbw := via hbw hb; replace B0 := bk_keep hb B0; replace B2 := bk_keep hb B2; replace B3 := bk_keep hb B3; replace C0 := bk3 B0; replace C2 := bk3 B2; replace C3 := bk3 B3; replace hxat := hxat.below hb)
    by_cases hd0 : d ≠ 0
    · have hz2 : (d != 0) = true := by simpa using hd0
      clear hd
      go_wp2_with fail
      refine bodyPost_ret (v := .bool true) ?_ rfl ⟨rfl, hbw⟩
      simp [results, Tryz.results3, go_sem]
    obtain rfl : d = 0 := Decidable.not_not.1 hd0
    clear hd0
    obtain ⟨h40, hin⟩ := hd rfl
    obtain ⟨us, hlu, hus⟩ := nat_list l hin
    clear hd hin hME hI hb
    have hul : us.length = N := by rw [← hN'.out, hlu, List.length_map]
    have hN12 := hl12.out
    rw [hN'.out] at hN12
    have hu5 : ∀ a ∈ us, a ≤ 5 := fun a ha => by
      have h1 := hus a ha
      have h2 := hR'.out.m1
      omega
    obtain ⟨T, hTx⟩ : ∃ T, butt ++ ⟨#[32]⟩ ++ restB us = T := ⟨_, rfl⟩
    have hFm : Hid (∀ A c W, At 1 Ic W A l → Calls Tryz.prog 14 #[.agg #[.string ⟨#[98, 117, 116, 116]⟩, .slice A N c]] W fun e w' => e = .returned (.string T) ∧ Below W.heap.size W w') := Lib.hid fun A c W h => by
      have := formatSheet_any butt A us c W (at_natC (hlu ▸ h)) (fun a ha => by have := hu5 a ha; omega) (by omega) (by decide)
      rw [hul, hTx] at this
      exact this
    have hPs : Hid (∀ W, Calls Tryz.prog 13 #[.string T] W fun e w' => (∃ A c, e = .returned (.tuple #[.agg #[.string ⟨#[98, 117, 116, 116]⟩, .slice A N c], .int .i64 0]) ∧ At 1 Nc w' A us) ∧ Below W.heap.size W w') := Lib.hid fun W => by
      have := parseSheet_any us hu5 (by omega) W
      rw [hul, hTx] at this
      exact this
    have hKa := Lib.hid fun h A c W (hc : CopyP mk cl h W) (hA : At 1 Nc W A us) => classP_any mk cl b h A us c W hR'.out hc (by omega) hA hus
    have hKx := Lib.hid fun h A c W (hc : CopyP mk clx h W) (hA : At 1 Nc W A us) => classP_any mk clx 0 h A us c W hRx.out hc (by omega) hA hus
    rw [hul] at hKa hKx
    have hrk := hxl.rank hus
    have hl1 := rank_len hR'.out (runW_lt hR'.out us b (bg_lt hR'.out) hus)
    have hl2 := rank_len hRx.out (runW_lt hRx.out us 0 (bg_lt hRx.out) hus)
    generalize clN cl (runW (nxC cl) b us) = S1 at *
    generalize clN clx (runW (nxC clx) 0 us) = S2 at *
    have hRk1 := Lib.hid fun W => refRank_any S1 W hl1
    have hRk2 := Lib.hid fun W => refRank_any S2 W hl2
    rw [← hrk] at hRk2
    generalize rkS S1 = RS at *
    replace hKa := hKa
    clear hTx hul hN12 hlu hu5 hus hrk hl1 hl2 hl12
    go_wp2_with (first
      | (go_at_call 15; refine (hCI.out _ hbw).mono ?_; rintro e w16 ⟨⟨A6, c6, rfl, hA6⟩, hb⟩; (replace hbw := via hbw hb; replace B0 := bk_keep hb B0; replace B2 := bk_keep hb B2; replace B3 := bk_keep hb B3; replace C0 := bk3 B0; replace C2 := bk3 B2; replace C3 := bk3 B3; replace hxat := hxat.below hb))
      | (go_at_call 14; refine (hFm.out _ _ _ hA6).mono ?_; rintro e w17 ⟨rfl, hb⟩; (replace hbw := via hbw hb; replace B0 := bk_keep hb B0; replace B2 := bk_keep hb B2; replace B3 := bk_keep hb B3; replace C0 := bk3 B0; replace C2 := bk3 B2; replace C3 := bk3 B3; replace hxat := hxat.below hb))
      | (go_at_call 13; refine (hPs.out _).mono ?_; rintro e w18 ⟨⟨A8, c8, rfl, hA8⟩, hb⟩; (replace hbw := via hbw hb; replace B0 := bk_keep hb B0; replace B2 := bk_keep hb B2; replace B3 := bk_keep hb B3; replace C0 := bk3 B0; replace C2 := bk3 B2; replace C3 := bk3 B3; replace hxat := hxat.below hb)))
    have B4 := bk_new w18 (.cells #[.string ⟨#[98, 117, 116, 116]⟩, .slice A8 N c8] 40 (0, 0)) rfl
    replace B0 := bk_alloc B0 (.cells #[.string ⟨#[98, 117, 116, 116]⟩, .slice A8 N c8] 40 (0, 0))
    replace B2 := bk_alloc B2 (.cells #[.string ⟨#[98, 117, 116, 116]⟩, .slice A8 N c8] 40 (0, 0))
    replace hxat := hxat.below (new_below w18 (.cells #[.string ⟨#[98, 117, 116, 116]⟩, .slice A8 N c8] 40 (0, 0)))
    replace hA8 := hA8.below (new_below w18 (.cells #[.string ⟨#[98, 117, 116, 116]⟩, .slice A8 N c8] 40 (0, 0)))
    replace hbw := via_alloc hbw (.cells #[.string ⟨#[98, 117, 116, 116]⟩, .slice A8 N c8] 40 (0, 0))
    obtain ⟨Z, hZ⟩ : ∃ Z, w18.heap.size = Z := ⟨_, rfl⟩
    obtain ⟨V2, hV2⟩ : ∃ V2, w18.alloc (.cells #[.string ⟨#[98, 117, 116, 116]⟩, .slice A8 N c8] 40 (0, 0)) = V2 := ⟨_, rfl⟩
    rw [hV2] at B0 B2 B4 hxat hA8 hbw ⊢
    rw [hZ] at B4 ⊢
    clear hV2 hZ hb B3 C0 C2 C3 hFm hPs hCI hA6
    apply region_cpq w 1 3 (fun h => .agg #[.slice (h).a1 mk.length (h).c1, .int .i64 (b), .slice (h).a2 cl.length (h).c2]) (fun _ => .tuple #[.string S1, .int .i64 0]) (CopyP mk cl) (fun _ _ => True)
    case hm => kernel_rfl
    case hB => kernel_rfl
    case hB' => intro g; kernel_rfl
    case hS => kernel_rfl
    case hN => kernel_rfl
    case hne => decide
    case ht => kernel_rfl
    case hw => exact hbw
    case hs1 => exact fun _ _ _ h hb => h.below hb
    case hs2 => exact fun _ _ _ _ _ => trivial
    case hq =>
      intro g u hu hgc hbx hbX
      have D0 := bk3 (bk_keep hu B0)
      have D4 := bk2 (bk_keep hu B4)
      simp only [mixL, yieldsC, List.contains_cons, List.contains_nil, Nat.reduceAdd, Nat.reduceBEq, Nat.zero_add, Bool.or_false, Bool.or_true, Bool.false_or, Bool.true_or, Bool.false_eq_true, if_true, if_false, Bool.or_self]
      repeat (go_big_quiet_step (fail))
      exact wpQuiet_nil rfl
    case hind => intro j hj; simp only [List.mem_cons, List.not_mem_nil, or_false] at hj; rcases hj with rfl | rfl <;> (intro g h; kernel_rfl)
    case hcp =>
      intro o ho g x hx2 hw
      simp only [List.getElem?_cons_succ, List.getElem?_cons_zero, Option.some.injEq] at ho
      subst ho
      exact ⟨9, #[.agg #[.slice mA mk.length mc, .int .i64 b, .slice cA cl.length cc]], by kernel_rfl, hCa.out x hw⟩
    case hcl =>
      intro o ho g x hx2 hw hp
      simp only [List.getElem?_cons_succ, List.getElem?_cons_zero, Option.some.injEq] at ho
      subst ho
      exact ⟨16, #[.agg #[.slice ((g 1)).a1 mk.length ((g 1)).c1, .int .i64 (b), .slice ((g 1)).a2 cl.length ((g 1)).c2], .agg #[.string ⟨#[98, 117, 116, 116]⟩, .slice A8 N c8]], by kernel_rfl, (hKa.out _ _ _ x hp (hA8.below hx2)).mono fun e x' ⟨he, hb⟩ => ⟨Gh.zero, he, trivial, hb⟩⟩
    case hend =>
    intro g21 u2 hu hbu _
    replace B2 := bk_keep hu B2
    replace B4 := bk_keep hu B4
    replace hxat := hxat.below hu
    replace hA8 := hA8.below hu
    replace hbw := hbu
    clear hu hbu hKa B0 hCa
    go_wp2_with fail
    apply region_cpq w 1 3 (fun h => .agg #[.slice (h).a1 mk.length (h).c1, .int .i64 (0), .slice (h).a2 clx.length (h).c2]) (fun _ => .tuple #[.string S2, .int .i64 0]) (CopyP mk clx) (fun _ _ => True)
    case hm => kernel_rfl
    case hB => kernel_rfl
    case hB' => intro g; kernel_rfl
    case hS => kernel_rfl
    case hN => kernel_rfl
    case hne => decide
    case ht => kernel_rfl
    case hw => exact hbw
    case hs1 => exact fun _ _ _ h hb => h.below hb
    case hs2 => exact fun _ _ _ _ _ => trivial
    case hq =>
      intro g u hu hgc hbx hbX
      have D2 := bk3 (bk_keep hu B2)
      have D4 := bk2 (bk_keep hu B4)
      simp only [mixL, yieldsC, List.contains_cons, List.contains_nil, Nat.reduceAdd, Nat.reduceBEq, Nat.zero_add, Bool.or_false, Bool.or_true, Bool.false_or, Bool.true_or, Bool.false_eq_true, if_true, if_false, Bool.or_self]
      repeat (go_big_quiet_step (fail))
      exact wpQuiet_nil rfl
    case hind => intro j hj; simp only [List.mem_cons, List.not_mem_nil, or_false] at hj; rcases hj with rfl | rfl <;> (intro g h; kernel_rfl)
    case hcp =>
      intro o ho g x hx2 hw
      simp only [List.getElem?_cons_succ, List.getElem?_cons_zero, Option.some.injEq] at ho
      subst ho
      exact ⟨9, #[.agg #[.slice (hx).a1 mk.length (hx).c1, .int .i64 (0), .slice (hx).a2 clx.length (hx).c2]], by kernel_rfl, hCx.out x (hxat.below hx2)⟩
    case hcl =>
      intro o ho g x hx2 hw hp
      simp only [List.getElem?_cons_succ, List.getElem?_cons_zero, Option.some.injEq] at ho
      subst ho
      exact ⟨16, #[.agg #[.slice ((g 1)).a1 mk.length ((g 1)).c1, .int .i64 (0), .slice ((g 1)).a2 clx.length ((g 1)).c2], .agg #[.string ⟨#[98, 117, 116, 116]⟩, .slice A8 N c8]], by kernel_rfl, (hKx.out _ _ _ x hp (hA8.below hx2)).mono fun e x' ⟨he, hb⟩ => ⟨Gh.zero, he, trivial, hb⟩⟩
    case hend =>
    intro g22 u3 hu hbu _
    replace hbw := hbu
    clear hu hbu hKx B2 B4 hCx hxat hA8
    go_wp2_with fail
    refine (hRk1.out _).mono ?_
    rintro e w' ⟨rfl, rfl⟩
    go_wp2_with fail
    refine (hRk2.out _).mono ?_
    rintro e w' ⟨rfl, rfl⟩
    go_wp2_with fail
    go_ret
    exact ⟨rfl, hbw⟩
end Go.Proofs

set_option linter.unusedSimpArgs false
set_option linter.unusedVariables false
namespace Go.Proofs
open Go Go.RowKit
section
variable {H : Type} {enc : TypeId × Value → H}
/-- The wrap of a law whose row lists variables, with the world's shape handed on. -/
theorem of_change_and_shaped {a : Assume} {C : Checked} {os : Os} {f : FuncId} {fn : Func} {s : ChangeSpec} {conds : List PathCond} {apart fresh handsOn again : Bool} {X : World → Array Value → Prop}
    (hX : ∀ (w w' : World) (args : Array Value), w.heap = w'.heap → X w args → X w' args)
    (own : ownKnob C.prog.godebug = none) (started : os.Started) (noInit : C.prog.inits.idxOf? f = none) (hfn : C.prog.funcs[f]? = some fn)
    (witness : ∃ (w : World) (tape : Tape) (i : Input), w.os = os ∧ (w.forCall tape i).Shaped C.prog ∧ i.vars = [] ∧ Input.okWide C.prog (w.forCall tape i) .any w.heap.size f i ∧
      ((s.pre enc C.prog fn conds apart (w.forCall tape i).memory i.args ∧ X (w.forCall tape i).memory i.args) ∧ sizedMet enc C.prog fn (OpenSpec.ofChange s) apart (w.forCall tape i).memory i.args) ∧ a.holds C.prog (lone (Frame.enter C.prog f i.args .normal) [] (w.forCall tape i)))
    (contract : ∀ (W : World) (base : Nat) (args : Array Value) (ds gs : List (DataW H)) (before : List MemPlace),
      (∀ (j : Nat) t v, fn.params[j]? = some t → args[j]? = some v → Value.okWide C.prog W .any base t v) →
      DataW.Whole enc C.prog fn.params.toList s.vars apart W args.toList ds gs before → X W args → W.ShapedOpen C.prog →
      Calls C.prog f args W fun e W' => ∃ v, e = .returned v ∧ s.post enc C.prog fn apart fresh handsOn again W args v W') :
    ReturnsInHanded a C os f .any (fun w args => (s.pre enc C.prog fn conds apart w args ∧ X w args) ∧ sizedMet enc C.prog fn (OpenSpec.ofChange s) apart w args) (s.post enc C.prog fn apart fresh handsOn again) := by
  refine returnsInHanded_of_calls own started noInit witness ?_
  intro w tape i _ hsh _ hok hpre hholds
  obtain ⟨_, _, _, fn', hfn', _, _, _, _, hval⟩ := hok
  have e : fn' = fn := Option.some.inj (hfn'.symm.trans hfn)
  subst e
  obtain ⟨⟨⟨ds, gs, before, hw, hc⟩, hx⟩, hz⟩ := hpre
  have hw' := DataW.Whole.of_heap (w' := w.forCall tape i) (by rfl) hw
  refine (contract (w.forCall tape i) w.heap.size i.args ds gs before hval hw' (hX _ _ _ (by rfl) hx) hsh).mono fun e W' ⟨v, he, hp⟩ => ?_
  subst he
  exact ChangeSpec.post_blind hp
end
open Go.WideShapes Go.ChangeShapes Go.Deep Go.Joins
section
variable {H : Type} {enc : TypeId × Value → H} {w : World} {spare : Nat → Bool} {held : Bool}
/-- A slice of structs of any cells, opened. -/
theorem open_flat {α : Type} {t e sz : Nat} {cs : α → List Value} {Q : α → Prop} {fuel : Nat} {v : Value} {y : DataW H × List MemPlace} (ht : Tryz.prog.underlying t = some (.slice e)) (hC : Tryz.prog.cellsOf e = sz) (h0 : 0 < sz) (hsz : ∀ x, (cs x).length = sz)
    (ho : ∀ {n : Nat} {l : List Value} {x : DataW H × List MemPlace}, l.length = sz → DataW.trod enc Tryz.prog w 0 spare held n e l = some x → ∃ r : α, l = cs r ∧ Q r)
    (h : DataW.trod enc Tryz.prog w 0 spare held fuel t [v] = some y) :
    ∃ (A : Option Addr) (rs : List α) (c : Nat), v = .slice A rs.length c ∧ At sz cs w A rs ∧ rs.length ≤ c ∧ c ≤ maxLen ∧ ∀ x ∈ rs, Q x := by
  rcases open_slice ht h with ⟨hc, -⟩ | ⟨a, len, cap, m, n, D, Pl, hc, -, hl, hm, hmm, -, hf⟩
  · simp only [List.cons.injEq, and_true] at hc
    exact ⟨none, [], 0, hc, fun k x hx => by simp at hx, Nat.le_refl _, by decide, fun x hx => by simp at hx⟩
  · simp only [List.cons.injEq, and_true] at hc
    have hlm : len ≤ m := by rw [hmm]; split <;> omega
    obtain ⟨l, hll, hat, hq⟩ := at_of_cells (cs := cs) (sz := sz) (Q := Q) (W := w) (a := a) hsz h0 len (fun i hi => by
      obtain ⟨cs', hcs, htr⟩ := hf i (by omega)
      rw [hC] at hcs
      obtain ⟨_, hcl, hat⟩ := World.cells?_some hcs
      obtain ⟨r, hr, hq⟩ := ho hcl htr
      refine ⟨r, hq, fun j u hu => ?_⟩
      rw [← hr] at hu
      have hj : j < sz := by have := (List.getElem?_eq_some_iff.1 hu).1; rw [hr, hsz] at this; exact this
      have := hat j hj
      rw [hu] at this
      rw [← Go.Deep.add_add]
      exact this)
    subst hll
    exact ⟨some a, l, cap, hc, hat, hl, hm, hq⟩
theorem open_intsT {fuel : Nat} {v : Value} {y : DataW H × List MemPlace} (h : DataW.trod enc Tryz.prog w 0 spare held fuel 26 [v] = some y) :
    ∃ (A : Option Addr) (l : List Int) (c : Nat), v = .slice A l.length c ∧ At 1 Ic w A l ∧ l.length ≤ c ∧ c ≤ maxLen := by
  obtain ⟨A, l, c, h1, h2, h3, h4, -⟩ := open_flat (cs := Ic) (sz := 1) (Q := fun _ => True) Tryz.underlying26 (by kernel_rfl) (by omega) (fun _ => rfl) (fun {n l x} hl ht => by
    obtain ⟨a, e0, -, -⟩ := DataW.trod_int Tryz.underlying3 ht
    exact ⟨a, e0, trivial⟩) h
  exact ⟨A, l, c, h1, h2, h3, h4⟩
theorem open_textsT {fuel : Nat} {v : Value} {y : DataW H × List MemPlace} (h : DataW.trod enc Tryz.prog w 0 spare held fuel 22 [v] = some y) :
    ∃ (A : Option Addr) (l : List ByteArray) (c : Nat), v = .slice A l.length c ∧ At 1 Sc w A l ∧ l.length ≤ c ∧ c ≤ maxLen ∧ ∀ s ∈ l, s.size ≤ maxLen :=
  open_flat (cs := Sc) (sz := 1) (Q := fun s => s.size ≤ maxLen) Tryz.underlying22 (by kernel_rfl) (by omega) (fun _ => rfl) (fun {n l x} hl ht => by
    obtain ⟨s, e0, -, hs⟩ := DataW.trod_string Tryz.underlying9 ht
    exact ⟨s, e0, hs⟩) h
def ClQ (w : World) (y : Cl) : Prop := At 1 Ic w y.nA y.nx ∧ At 1 Sc w y.rA y.rs ∧ y.nm.size ≤ maxLen ∧ y.nx.length ≤ maxLen ∧ y.rs.length ≤ maxLen ∧ ∀ s ∈ y.rs, s.size ≤ maxLen
set_option maxRecDepth 100000 in
theorem open_classT {n : Nat} {cs : List Value} {x : DataW H × List MemPlace} (hl : cs.length = 3) (h : DataW.trod enc Tryz.prog w 0 spare held n 57 cs = some x) : ∃ y : Cl, cs = y.cs ∧ ClQ w y := by
  obtain ⟨ys, m, -, -, -, hyl, hf⟩ := DataW.trod_struct Tryz.underlying57 h
  have k9 : Tryz.prog.cellsOf 9 = 1 := by kernel_rfl
  have k26 : Tryz.prog.cellsOf 26 = 1 := by kernel_rfl
  have k22 : Tryz.prog.cellsOf 22 = 1 := by kernel_rfl
  match cs, hl with
  | [c0, c1, c2], _ =>
    match ys, hyl with
    | [y0, y1, y2], _ =>
      have g0 : DataW.trod enc Tryz.prog w 0 spare held m 9 ((List.drop 0 [c0, c1, c2]).take (Tryz.prog.cellsOf 9)) = some y0 := hf 0 _ rfl
      have g1 : DataW.trod enc Tryz.prog w 0 spare held m 26 ((List.drop 1 [c0, c1, c2]).take (Tryz.prog.cellsOf 26)) = some y1 := hf 1 _ rfl
      have g2 : DataW.trod enc Tryz.prog w 0 spare held m 22 ((List.drop 2 [c0, c1, c2]).take (Tryz.prog.cellsOf 22)) = some y2 := hf 2 _ rfl
      rw [k9] at g0
      rw [k26] at g1
      rw [k22] at g2
      simp only [List.drop_zero, List.drop_succ_cons, List.take_succ_cons, List.take_zero] at g0 g1 g2
      obtain ⟨s, e0, -, hs⟩ := DataW.trod_string Tryz.underlying9 g0
      obtain ⟨A, nx, nc, rfl, p1, p2, p3⟩ := open_intsT g1
      obtain ⟨A2, rs, rc, rfl, q1, q2, q3, q4⟩ := open_textsT g2
      simp only [List.cons.injEq, and_true] at e0
      subst e0
      exact ⟨⟨s, A, nx, nc, A2, rs, rc⟩, rfl, p1, q1, hs, Nat.le_trans p2 p3, Nat.le_trans q2 q3, q4⟩
set_option maxRecDepth 100000 in
theorem open_bookT {v : Value} {d : DataW H} {p : List MemPlace} (hv : Value.okWide Tryz.prog w .any 0 25 v) (h : DataW.Trod enc Tryz.prog w 0 spare held 25 v d p) :
    ∃ (mA cA : Option Addr) (mk : List ByteArray) (cl : List Cl) (mc cc : Nat) (bg : Int), v = .agg #[.slice mA mk.length mc, .int .i64 bg, .slice cA cl.length cc] ∧ BkAt w mA mk cA cl ∧ mk.length ≤ mc ∧ SizesB mk cl ∧ mk.length ≤ maxLen := by
  obtain ⟨cs, rfl, hsz⟩ := okWide_struct Tryz.underlying25 hv
  have h3 : cs.size = 3 := hsz.trans (by kernel_rfl)
  obtain ⟨l⟩ := cs
  match l, h3 with
  | [c0, c1, c2], _ =>
    obtain ⟨fuel, hf'⟩ := h
    obtain ⟨ys, m, -, -, hlen, hyl, hf⟩ := DataW.trod_struct Tryz.underlying25 hf'
    have k3 : Tryz.prog.cellsOf 3 = 1 := by kernel_rfl
    have k22 : Tryz.prog.cellsOf 22 = 1 := by kernel_rfl
    have k23 : Tryz.prog.cellsOf 23 = 1 := by kernel_rfl
    match ys, hyl with
    | [y0, y1, y2], _ =>
      have g0 : DataW.trod enc Tryz.prog w 0 spare held m 22 ((List.drop 0 [c0, c1, c2]).take (Tryz.prog.cellsOf 22)) = some y0 := hf 0 _ rfl
      have g1 : DataW.trod enc Tryz.prog w 0 spare held m 3 ((List.drop 1 [c0, c1, c2]).take (Tryz.prog.cellsOf 3)) = some y1 := hf 1 _ rfl
      have g2 : DataW.trod enc Tryz.prog w 0 spare held m 23 ((List.drop 2 [c0, c1, c2]).take (Tryz.prog.cellsOf 23)) = some y2 := hf 2 _ rfl
      rw [k22] at g0
      rw [k3] at g1
      rw [k23] at g2
      simp only [List.drop_zero, List.drop_succ_cons, List.take_succ_cons, List.take_zero] at g0 g1 g2
      obtain ⟨mA, mk, mc, rfl, p1, p2, p3, p4⟩ := open_textsT g0
      obtain ⟨b, e1, -, -⟩ := DataW.trod_int Tryz.underlying3 g1
      obtain ⟨cA, cl, cc, rfl, q1, q2, q3, q4⟩ := open_flat (cs := Cl.cs) (sz := 3) (Q := ClQ w) Tryz.underlying23 (by kernel_rfl) (by omega) (fun _ => rfl) open_classT g2
      simp only [List.cons.injEq, and_true] at e1
      subst e1
      exact ⟨mA, cA, mk, cl, mc, cc, b, rfl, ⟨p1, q1, fun x hx => (q4 x hx).1, fun x hx => (q4 x hx).2.1⟩, p2, ⟨p4, fun y hy => (q4 y hy).2.2⟩, Nat.le_trans p2 p3⟩
set_option maxRecDepth 100000 in
theorem open_marksT {v : Value} {d : DataW H} {p : List MemPlace} (hv : Value.okWide Tryz.prog w .any 0 26 v) (h : DataW.Trod enc Tryz.prog w 0 spare held 26 v d p) :
    ∃ (A : Option Addr) (l : List Int) (c : Nat), v = .slice A l.length c ∧ At 1 Ic w A l := by
  obtain ⟨a, len, cap, rfl⟩ := okWide_slice Tryz.underlying26 hv
  obtain ⟨fuel, hf⟩ := h
  obtain ⟨A, l, c, h1, h2, -, -⟩ := open_intsT hf
  exact ⟨A, l, c, h1, h2⟩
end
end Go.Proofs
