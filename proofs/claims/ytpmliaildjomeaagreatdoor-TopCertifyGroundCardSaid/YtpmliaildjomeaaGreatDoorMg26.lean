import Derived.Test.YtpmliaildjomeaaGreatDoorMg25
import Derived.Test.YtpmliaildjomeaaGreatDoorMg24
import Derived.Test.YtpmliaildjomeaaGreatDoorMg17
set_option linter.unusedSimpArgs false
set_option linter.unusedVariables false
namespace Go.Proofs
open Go.RowKit
set_option linter.unusedVariables false
/-! copied: a copy of a book. -/
def En.sig (x : En) : ByteArray × List Int × Int := (x.nm, x.co, x.mo)
set_option maxRecDepth 100000 in
set_option maxHeartbeats 4000000 in
theorem copied_any (pA eA : Option Addr) (pc ec pn en : Nat) (ps : List Pa) (es : List En) (w : World) (hB : BookAt w pA pc ps eA ec es) (hF : FewB ps es) (hpn : ps.length = pn) (hen : es.length = en) (hpnil : pA = none → pc = 0) (he9 : en ≤ 900) :
    Calls Tryz.prog 49 #[.agg #[.slice pA pn pc, .slice eA en ec]] w fun e w' => (∃ A c A2 c2 es2, e = .returned (.agg #[.slice A pn c, .slice A2 en c2]) ∧ es2.length = en ∧ es2.map En.sig = es.map En.sig ∧ w'.ownsRow w.heap.size 71 5 (.slice A pn c) pn (ps.flatMap Pa.cs) ∧ EnsOwn w' w.heap.size (.slice A2 en c2) es2) ∧ Below w.heap.size w w' := by
  have hCp := Lib.hid fun W (hb : Below w.heap.size w W) => clone_parts pA ps pc pn W (hB.P.below hb) hpn (by rw [← hpn]; exact hF.p) hpnil
  have hec : en ≤ ec := by rw [← hen]; exact hB.ec'
  have hE' := Lib.hid hB.E
  have hnl' := Lib.hid hB.nil
  have hen' := Lib.hid hen
  have hco' := Lib.hid hF.co
  obtain ⟨i0, hi, hz0, hz1, hz2⟩ := info_parts infoEn
  have hs2 : ∀ x, (sizeOf 25).run Tryz.prog x = .ok 2 x := fun x => by kernel_rfl
  have ha2 : ∀ x, (isAgg 25).run Tryz.prog x = .ok true x := fun x => by kernel_rfl
  clear hB hF hpn hen hpnil
  go_enter Tryz.func49, Tryz.ntmps49
  go_wp2_with (go_at_call 75; refine (hCp.out _ (by go_grown)).mono ?_; rintro e w2 ⟨⟨Ap, cp, rfl, hOp⟩, hb2⟩; (have M0 := bk_keep hb2 (by (repeat (first | assumption | (refine bk_new _ _ ?_; (simp; done)) | refine bk_drew ?_ | refine bk_alloc ?_ _ | refine bk_set ?_ (by simp <;> omega) _)) : ((w.alloc (.cells #[.slice pA pn pc, .slice eA en ec] 25 (0, 0))).alloc (.cells #[.slice none 0 0, .slice none 0 0] 25 (0, 0))).heap[w.heap.size]? = some (.cells #[.slice pA pn pc, .slice eA en ec] 25 (0, 0)))); (have M1 := bk_keep hb2 (by (repeat (first | assumption | (refine bk_new _ _ ?_; (simp; done)) | refine bk_drew ?_ | refine bk_alloc ?_ _ | refine bk_set ?_ (by simp <;> omega) _)) : ((w.alloc (.cells #[.slice pA pn pc, .slice eA en ec] 25 (0, 0))).alloc (.cells #[.slice none 0 0, .slice none 0 0] 25 (0, 0))).heap[w.heap.size + 1]? = some (.cells #[.slice none 0 0, .slice none 0 0] 25 (0, 0)))); (have hbw2 : Below w.heap.size w w2 := via (by go_grown) hb2); (have D0 := bk2 M0); (have hsz2 := bk_size M1); clear hb2)
  have hOp := Lib.hid hOp
  go_loopw [13] (fun i wr => ∃ j : Nat, ∃ v : Value, ∃ xs : List En, j ≤ en ∧ i = .int .i64 j ∧ wr.heap[w2.heap.size]? = some (.cells #[.slice Ap pn cp, v] 25 (0, 0)) ∧ Hid (xs.length = j) ∧ Hid (xs.map En.sig = (es.take j).map En.sig) ∧ Hid (EnsOwn wr (w2.heap.size + 1) v xs) ∧ Below w2.heap.size w2 wr) (fun i _ => en - (intOf i).toNat)
  case atStart => exact ⟨0, .slice none 0 0, [], Nat.zero_le _, rfl, by (repeat (first | assumption | (refine bk_new _ _ ?_; (simp; done)) | refine bk_drew ?_ | refine bk_alloc ?_ _ | refine bk_set ?_ (by simp <;> omega) _)), Lib.hid rfl, Lib.hid rfl, Lib.hid (EnsOwn.nil _ _), by go_grown⟩
  case round =>
    obtain ⟨j, v, xs, hj, rfl, M3, hxl, hxs, hown, hb2⟩ := hrel
    have hown0 := hown.out.own
    rw [hxl.out] at hown0
    obtain ⟨A5, c5, rfl⟩ := own_slice hown0
    clear hown0
    have hbw : Below w.heap.size w wr := via hbw2 hb2
    have D0 := bk2 (bk_keep hb2 M0)
    have D1 := bk2 (bk_keep hb2 M1)
    have D3 := bk2 M3
    have hsr := bk_size M3
    by_cases hlt : j < en
    · have hjI : (j : Int) < (en : Int) := by omega
      obtain ⟨x, hx⟩ : ∃ x, es[j]? = some x := ⟨_, List.getElem?_eq_getElem (by rw [hen'.out]; exact hlt)⟩
      have hxm := List.mem_of_getElem? hx
      obtain ⟨b, o, rfl, hbb, hc⟩ := (hE'.out.below hbw).1 j x hx
      have y0 := hc 0 _ rfl
      have y1 := hc 1 _ rfl
      have y2 := hc 2 _ rfl
      simp only [Nat.add_zero] at y0
      obtain ⟨L, hL⟩ : ∃ L, x.co.length = L := ⟨_, rfl⟩
      have hCi := Lib.hid fun W (hb : Below wr.heap.size wr W) => clone_ints x.A x.co x.c L W (((hE'.out.below hbw).2 x hxm).below hb) hL (by rw [← hL]; exact hco'.out x hxm) (hnl'.out x hxm)
      have hts := Lib.hid (show (es.take (j + 1)).map En.sig = (es.take j).map En.sig ++ [x.sig] by rw [List.take_add_one, hx]; simp)
      have hL' := Lib.hid hL
      have hy1 : wr.cell? ⟨b, o + j * 3 + 1, none⟩ = some (.slice x.A L x.c) := by rw [← hL]; exact y1
      clear hc hx hxm y1 hL
      go_wp2_with (first
        | (go_at_call 76; refine (hCi.out _ (new_below _ _)).mono ?_; rintro e w5 ⟨⟨A6, c6, rfl, hO6⟩, hb5⟩; (have Q3 := bk_keep hb5 (bk_alloc M3 (.cells #[.string x.nm, .slice x.A L x.c, .int .i64 x.mo] 73 (0, 0)))); (have Q5 := bk_keep hb5 (bk_new wr (.cells #[.string x.nm, .slice x.A L x.c, .int .i64 x.mo] 73 (0, 0)) rfl)); (have E3 := bk2 Q3); (have E5 := bk3 Q5); (have hw65 := via (new_below wr (.cells #[.string x.nm, .slice x.A L x.c, .int .i64 x.mo] 73 (0, 0))) hb5); (have hW6 : Below wr.heap.size wr ((w5.setCell ⟨wr.heap.size, 1, none⟩ (.slice A6 L c6))) := hw65.trans (((OnlyB.refl wr.heap.size w5).set 1 _).below _ (Nat.le_refl _))); (have hown7 := Lib.hid (hown.out.below (via hW6 (new_below ((w5.setCell ⟨wr.heap.size, 1, none⟩ (.slice A6 L c6))) (.cells #[.string x.nm, .slice A6 L c6, .int .i64 x.mo] 73 (0, 0)))))); (have hO6' := Lib.hid hO6); clear hO6 hb5)
        | (at_builtin; refine wpList_append_lie rfl (.tmp 22) (.tmp 24) 23 73 i0 _ (.slice A5 j c5) 48 (w2.heap.size + 1) j w5.heap.size 3 (xs.flatMap En.cs) [.string x.nm, .slice A6 L c6, .int .i64 x.mo] 73 rfl rfl rfl (by kernel_rfl) hi hz0 hz1 hz2 rfl (by decide) (by decide) rfl ?c1 ?c2 ?c3 ?c4 ?c5 ?_))
      case c1 => have := hown7.out.own; rwa [hxl.out] at this
      case c2 => exact bk_new _ _ (by simp)
      case c3 => simp [Value.oneCell']
      case c4 => omega
      case c5 => have := hown7.out; have := hW6.size; simp at this ⊢; omega
      intro v' w8 ho8 hg8 hl8
      obtain ⟨A8, c8, rfl⟩ := own_slice ho8
      have hs6 : ((w5.setCell ⟨wr.heap.size, 1, none⟩ (.slice A6 L c6))).heap.size = w5.heap.size := setCell_size _ _ _
      have hlo : ∀ g, A6 = some g → wr.heap.size + 1 ≤ g.block ∧ g.block < w5.heap.size := fun g e => by
        have := hO6'.out.lt g.block (by rw [e]; rfl)
        simp only [World.size_alloc] at this
        exact this
      have o7 := owns_below (owns_kept hO6'.out fun r e => ((OnlyB.refl wr.heap.size w5).set 1 (.slice A6 L c6)).other r (by have := (hO6'.out.lt r e).1; simp at this; omega)) (new_below ((w5.setCell ⟨wr.heap.size, 1, none⟩ (.slice A6 L c6))) (.cells #[.string x.nm, .slice A6 L c6, .int .i64 x.mo] 73 (0, 0)))
      have o5 := hown7.out.own
      rw [hxl.out] at o5
      have hlt5 := fun r e => (hown.out.own.lt r e).2
      have hE8 : EnsOwn w8 (w2.heap.size + 1) (.slice A8 (j + 1) c8) (xs ++ [⟨x.nm, A6, c6, x.co, x.mo⟩]) := by
        refine EnsOwn.push hown7.out (x := ⟨x.nm, A6, c6, x.co, x.mo⟩) (own_at o7 hL'.out) (own_nil o7) (fun g e => ?_) hg8 ?_ ?_
        · have h1 := hlo g e
          refine ⟨by omega, ?_, fun h => ?_⟩
          · simp; omega
          · have := hlt5 _ h.symm
            omega
        · have := ho8
          simp only [hxl.out, En.cs, hL'.out]
          exact this
        · rcases hl8 with h | h
          · exact .inl h
          · exact .inr (by rw [h]; simp)
      have R3 := bk_grown hg8 (bk_alloc (bk_setO (i := 1) (u := .slice A6 L c6) Q3 (show w2.heap.size ≠ wr.heap.size by omega)) (.cells #[.string x.nm, .slice A6 L c6, .int .i64 x.mo] 73 (0, 0))) (not_own o5 (Nat.lt_succ_self _))
      have hbw8 : Below w2.heap.size w2 w8 := grown_below ((hb2.trans (hW6.mono (by omega))).trans ((new_below ((w5.setCell ⟨wr.heap.size, 1, none⟩ (.slice A6 L c6))) (.cells #[.string x.nm, .slice A6 L c6, .int .i64 x.mo] 73 (0, 0))).mono (by omega))) hg8 fun b e => by have := (o5.lt b e).1; omega
      have hE8' := Lib.hid hE8
      clear hE8 o7 o5 hlt5 hlo hs6 ho8 hg8 hl8 hown7 hO6' hW6 hw65
      have F8 := bk2 R3
      obtain ⟨hx1, hx2⟩ : Hid ((xs ++ [(⟨x.nm, A6, c6, x.co, x.mo⟩ : En)]).length = j + 1) ∧ Hid ((xs ++ [(⟨x.nm, A6, c6, x.co, x.mo⟩ : En)]).map En.sig = (es.take (j + 1)).map En.sig) := ⟨Lib.hid (by simp [hxl.out]), Lib.hid (by rw [hts.out, List.map_append, hxs.out]; rfl)⟩
      go_wp2
      go_roundw
      case rel => exact ⟨j + 1, _, _, by omega, by go_num, bk_here (o := 1) R3 (.slice A8 (j + 1) c8) rfl, hx1, hx2, Lib.hid (hE8'.out.other (Nat.lt_succ_self _) ((OnlyB.refl _ _).set _ _) (by simp)), hbw8.trans (((OnlyB.refl w2.heap.size w8).set 1 _).below _ (Nat.le_refl _))⟩
      case measure => first | (simp [intOf]; done) | (simp [intOf]; omega)
    · obtain rfl : en = j := by omega
      have hts : xs.map En.sig = es.map En.sig := by rw [hxs.out, ← hen'.out, List.take_length]
      have hts' := Lib.hid hts
      have ho9 := Lib.hid (owns_below hOp.out hb2)
      clear hts
      go_wp2
      refine bodyPost_ret (v := .agg #[.slice Ap pn cp, .slice A5 en c5]) ?_ rfl ⟨⟨Ap, cp, A5, c5, xs, rfl, hxl.out, hts'.out, ?_, ?_⟩, ?_⟩
      · exact results_cell1 (p := 2) (ad := ⟨w.heap.size + 1, 0, none⟩) rfl (by rfl) (run_loadBlock (T := 25) (cs := [.slice Ap pn cp, .slice A5 en c5]) (ha2 _) (hs2 _) (bk_here (bk_here (bk_keep hb2 M1) _ rfl) _ rfl))
      · exact owns_base (owns_kept ho9.out fun r e => (((OnlyB.refl (w.heap.size + 1) wr).set _ _).set _ _).other r (by have := (ho9.out.lt r e).1; simp at this; omega)) (by simp; omega)
      · exact (hown.out.other (k := w.heap.size + 1) (by omega) (((OnlyB.refl _ _).set _ _).set _ _) (by simp)).base (by omega)
      · go_grown
end Go.Proofs

set_option linter.unusedSimpArgs false
set_option linter.unusedVariables false
namespace Go.Proofs
set_option linter.unusedVariables false
/-! The plain law of TopCertifyGround: what is issued is right, by its entries alone. -/
theorem detP_b4 {f : Nat → Nat → Int} {n : Nat} (hn : n ≤ 4) (hf : SmallF f n) : (detP f n).natAbs ≤ 614400000000 := by
  unfold detP
  have h2 := Nat.two_pow_pos n
  have := dpM_bound2 (by omega) hf (2 ^ n - 1) (by omega) (2 ^ n - 1) (Nat.le_refl _)
  refine Nat.le_trans this ?_
  have hp := pop_le n (List.mem_range.2 (by omega)) (2 ^ n - 1) (List.mem_range.2 (by omega))
  have h5 : pop n (2 ^ n - 1) ≤ 4 := by omega
  generalize pop n (2 ^ n - 1) = p at h5
  have : ∀ p, p ≤ 4 → fctN p * 400 ^ p ≤ 614400000000 := by decide
  exact this p h5
theorem solL_b4 {r : List (List Int)} {l : List Int} {den : Int} (h : solL r = some (l, den)) (h4 : r.length ≤ 4) (hs : SmallR r) : den.natAbs ≤ 614400000000 ∧ Small 614400000000 l := by
  have hb : ∀ inst, (detL r inst).natAbs ≤ 614400000000 := fun inst => by
    have := detP_b4 h4 (hs.col (qOf inst) r.length)
    rw [colQ_colF] at this
    exact this
  have hsg : ∀ d x : Int, (sgnI d * x).natAbs = x.natAbs := fun d x => by
    unfold sgnI
    split <;> omega
  unfold solL at h
  split at h
  · cases h
  rename_i hd
  obtain ⟨rfl, rfl⟩ : _ ∧ _ := by simpa using h
  refine ⟨by rw [hsg]; exact hb _, fun x hx => ?_⟩
  obtain ⟨i, -, rfl⟩ := List.mem_map.1 hx
  rw [hsg]
  exact hb _
theorem proofL_small {es : List En} {np : Nat} (hR : RightE es np) {ws : List Int} {z t : List Nat} {p : Prf} (hws : Small 400 ws) (hzn : z.Nodup) (h4 : ws.length ≤ 4) (h : proofL (exs es) ws z t = some p) :
    p.den.natAbs ≤ 614400000000 ∧ p.lev.natAbs ≤ 614400000000 ∧ Small 614400000000 p.W := by
  have hrl := proofRows_len (exs es) (t := t) hzn ws 0
  unfold proofL at h
  split at h
  · cases h
  rename_i l den hs
  split at h
  · cases h
  dsimp only at h
  split at h
  case isFalse => cases h
  obtain ⟨b1, b2⟩ := solL_b4 hs (by omega) (proofRows_small hR ws 0 hws)
  have hW := putW_small b2 t 0 (List.replicate (exs es).length 0) fun x hx => by rw [List.eq_of_mem_replicate hx]; decide
  obtain rfl : _ = p := by simpa using h
  refine ⟨Nat.le_trans (Int.natAbs_ediv_le_natAbs _ _) b1, Nat.le_trans (Int.natAbs_ediv_le_natAbs _ _) (b2.get 0), fun x hx => ?_⟩
  obtain ⟨y, hy, rfl⟩ := List.mem_map.1 hx
  exact Nat.le_trans (Int.natAbs_ediv_le_natAbs _ _) (hW y hy)
/-- What is known of what is found: a mix, a proof, and that both are one. -/
structure Dual (xs : List Ex) (ws m : List Int) (d : Int) (p : Prf) : Prop where
  mlen : m.length = ws.length
  d0 : 0 < d
  mnn : ∀ x ∈ m, 0 ≤ x
  sum : m.sum = d
  per : ∀ x ∈ xs, dotL x.1 m ≤ x.2 * d
  len : p.W.length = xs.length
  den : 0 < p.den
  nn : ∀ w ∈ p.W, 0 ≤ w
  lev : ∀ k, k < ws.length → p.lev ≤ ws.getD k 0 * p.den + putsL xs p.W k
  same : (p.lev - spentL xs p.W) * d = dotL ws m * p.den
theorem dual_of {es : List En} {np : Nat} (hR : RightE es np) (h1 : 1 ≤ np) (h5 : np ≤ 5) {ws m : List Int} {d : Int} {p : Prf} (hwn : ws.length = np) (h : solvedL np (exs es) ws = some (m, d, p)) : Dual (exs es) ws m d p := by
  obtain ⟨l, hl, hp, hm⟩ := solvedL_at h
  rw [exs_len] at hl
  obtain ⟨z1, z2, t1, t2, hzt⟩ := cmb_zt h1 hl
  have hco : ∀ x ∈ exs es, x.1.length = np := fun x hx => by
    obtain ⟨y, hy, rfl⟩ := List.mem_map.1 hx
    exact (hR.co y hy).1
  have hM := mixLP_of hm h1 h5 hco z1 (fun i hi => by rw [exs_len]; exact t1 i hi) hzt
  have hP := proofL_of hp (by omega) (fun i hi => by rw [hwn]; exact z1 i hi) z2 (fun i hi => by rw [exs_len]; exact t1 i hi) t2 (by omega)
  refine ⟨by rw [hM.len, hwn], hM.den, hM.nn, hM.sum, hM.per, hP.len, hP.den, hP.nn, hP.lev, ?_⟩
  refine strong (fun x hx => by rw [hco x hx, hM.len]) (by rw [hwn, hM.len]) hM.sum (fun k x hk hx => hP.eq k ?_ fun hz => ?_) fun i x w hx hw h0 => hM.tight i (hP.sup i w hw h0) x hx
  · have := (List.getElem?_eq_some_iff.1 hk).1
    have := hM.len
    omega
  · have := hM.zero k hz
    rw [List.getD_eq_getElem?_getD, hk] at this
    exact hx this
theorem small_of {es : List En} {np : Nat} (hR : RightE es np) (h1 : 1 ≤ np) (h4 : np ≤ 4) {ws m : List Int} {d : Int} {p : Prf} (hwn : ws.length = np) (hws : Small 400 ws) (h : solvedL np (exs es) ws = some (m, d, p)) : WeightR es.length p.den p.lev p.W := by
  have hD := dual_of hR h1 (by omega) hwn h
  obtain ⟨l, hl, hp, hm⟩ := solvedL_at h
  rw [exs_len] at hl
  obtain ⟨z1, z2, t1, t2, hzt⟩ := cmb_zt h1 hl
  obtain ⟨b1, b2, b3⟩ := proofL_small hR hws z2 (by omega) hp
  have h0 := hD.den
  exact ⟨by rw [hD.len, exs_len], by omega, by omega, by omega, fun x hx => by have := hD.nn x hx; have := b3 x hx; omega⟩
theorem issLev_eq (k n b : Int) (hb : 0 < b) : issLev k n b = (if k = 1 then n * 1000 else n) / b := by
  obtain ⟨g0, g1, g2⟩ := lowG_of n b hb
  unfold issLev
  generalize lowG n b = g at *
  obtain ⟨n', rfl⟩ := g1
  obtain ⟨b', rfl⟩ := g2
  rw [Int.mul_ediv_cancel_left _ (by omega), Int.mul_ediv_cancel_left _ (by omega)]
  split
  · rw [Int.mul_assoc, Int.mul_ediv_mul_of_pos _ _ g0]
  · rw [Int.mul_ediv_mul_of_pos _ _ g0]
theorem dot_nn : ∀ (a m : List Int), (∀ x ∈ a, 0 ≤ x) → (∀ x ∈ m, 0 ≤ x) → 0 ≤ dotL a m
  | [], _, _, _ => by simp [dotL]
  | _ :: _, [], _, _ => by simp [dotL]
  | x :: a, y :: m, ha, hm => by
    simp only [dotL]
    have h1 := Int.mul_nonneg (ha x (by simp)) (hm y (by simp))
    have h2 := dot_nn a m (fun z hz => ha z (by simp [hz])) fun z hz => hm z (by simp [hz])
    omega
theorem BookR.worth_nn {ps : List Pa} {es : List En} (h : BookR ps es) (k ag : Int) : ∀ x ∈ worthL ps k ag, 0 ≤ x := fun x hx => by
  unfold worthL at hx
  obtain ⟨p, hp, rfl⟩ := List.mem_map.1 hx
  obtain ⟨i, hi⟩ := List.getElem?_of_mem hp
  have := (h.part i p hi).2.2.1.1
  split
  · exact this
  · split <;> decide
theorem worth_one (ps : List Pa) {k : Int} (ag : Int) (hk : k = 1) : Small 1 (worthL ps k ag) := fun x hx => by
  unfold worthL at hx
  obtain ⟨p, hp, rfl⟩ := List.mem_map.1 hx
  subst hk
  rw [if_neg (by decide)]
  split <;> decide
theorem worthL_len (ps : List Pa) (k ag : Int) : (worthL ps k ag).length = ps.length := by simp [worthL]
def perK (k n : Int) : Int := if k = 1 then n * 1000 else n
theorem lessB_iff {k n d v : Int} : lessB k n d v = false ↔ v * d ≤ perK k n := by
  unfold lessB perK
  split <;> simp
theorem perK_mul (k n x : Int) : perK k (n * x) = perK k n * x := by
  unfold perK
  split
  · grind
  · rfl
theorem perK_mono {k a b : Int} (h : a ≤ b) : perK k a ≤ perK k b := by
  unfold perK
  split <;> omega
/-- The value that is issued: what the proof shows, rounded down. -/
theorem iss_val {ps : List Pa} {es : List En} (hB : BookR ps es) {k ag : Int} (hk : k = 0 ∨ k = 1) {m : List Int} {d : Int} {p : Prf} (h : solvedL ps.length (exs es) (worthL ps k ag) = some (m, d, p)) :
    0 ≤ issLev k (dotL (worthL ps k ag) m) d ∧ issLev k (dotL (worthL ps k ag) m) d ≤ 1000 ∧ issLev k (dotL (worthL ps k ag) m) d * p.den ≤ perK k (p.lev - spentL (exs es) p.W) ∧ issLev k (dotL (worthL ps k ag) m) d * d ≤ perK k (dotL (worthL ps k ag) m) := by
  have hD := dual_of hB.right hB.n1 hB.n5 (worthL_len _ _ _) h
  have hd := hD.d0
  have h0 := dot_nn _ m (hB.worth_nn k ag) hD.mnn
  have hv : issLev k (dotL (worthL ps k ag) m) d = perK k (dotL (worthL ps k ag) m) / d := issLev_eq _ _ _ hd
  have hle := Int.ediv_mul_le (perK k (dotL (worthL ps k ag) m)) (b := d) (by omega)
  have hn0 : 0 ≤ perK k (dotL (worthL ps k ag) m) := by unfold perK; split <;> omega
  have hK : perK k (dotL (worthL ps k ag) m) ≤ 1000 * d := by
    have hs := hD.sum
    rcases hk with rfl | rfl
    · have := dot_le _ m 400 (hB.worths 0 ag) hD.mnn
      rw [hs] at this
      simp only [perK]
      rw [if_neg (by decide)]
      omega
    · have := dot_le _ m 1 (worth_one ps ag rfl) hD.mnn
      rw [hs] at this
      simp only [perK, if_true]
      omega
  rw [hv]
  refine ⟨Int.ediv_nonneg hn0 (by omega), Int.ediv_le_of_le_mul hd hK, ?_, hle⟩
  refine Int.le_of_mul_le_mul_right (a := d) ?_ hd
  rw [← perK_mul, hD.same, perK_mul]
  generalize perK k (dotL (worthL ps k ag) m) / d = v at *
  have := Int.mul_le_mul_of_nonneg_right hle (show 0 ≤ p.den by have := hD.den; omega)
  grind
theorem checkE_zero {ps : List Pa} {es : List En} (hB : BookR ps es) {s : ByteArray} (hs : nameB s.data.toList = true) {k ag v den lev : Int} {W : List Int} (ha : askE k ag = 0) (hv : 0 ≤ v ∧ v ≤ 1000) (hW : WeightR es.length den lev W)
    (hl : ∀ i, i < ps.length → lev ≤ (worthL ps k ag).getD i 0 * den + putsL (exs es) W i) (hb : v * den ≤ perK k (lev - spentL (exs es) W)) : checkE ps es s k ag v den lev W = 0 := by
  have h1 : headE ps es s k ag v = 0 := by
    unfold headE
    rw [firstE_zero]
    simp only [List.mem_cons, List.not_mem_nil, or_false, forall_eq_or_imp, forall_eq]
    exact ⟨bookR_iff.2 hB, (unl_zero (by decide)).2 hs, ha, (unl_zero (by decide)).2 (within_iff.2 hv)⟩
  have h2 := weightR_iff.2 hW
  have h3 : holdsB (worthL ps k ag) es den lev W = true := holdsB_iff.2 fun i hi => by
    rw [worthL_len] at hi
    have := hl i hi
    unfold holdsAt
    omega
  have h4 := lessB_iff.2 hb
  unfold checkE
  rw [h1, h2, h3, h4]
  rfl
/-! The entries with a weight alone. -/
def pickZ (es : List En) (W : List Int) : List (En × Int) := (es.zip W).filter fun z => decide (0 < z.2)
theorem pick_cons (x : En) (es : List En) (w : Int) (W : List Int) : pickZ (x :: es) (w :: W) = if 0 < w then (x, w) :: pickZ es W else pickZ es W := by
  unfold pickZ
  rw [List.zip_cons_cons, List.filter_cons]
  simp
theorem hangsK_cons (w : Int) (W : List Int) : hangsK (w :: W) (W.length + 1) = (if 0 < w then [0] else []) ++ (hangsK W W.length).map (· + 1) := by
  unfold hangsK
  rw [List.range_succ_eq_map, List.filter_cons, List.filter_map]
  have e : ((fun i => decide (0 < (w :: W).getD i 0)) ∘ Nat.succ) = fun i => decide (0 < W.getD i 0) := by funext i; simp
  rw [e]
  by_cases h : 0 < w
  · simp [h]
  · simp [h]
theorem pickL_map (x : En) (es : List En) (S : List Nat) : pickL (x :: es) (S.map (· + 1)) = pickL es S := by
  unfold pickL
  rw [List.filterMap_map]
  rfl
theorem pick_eq : ∀ (es : List En) (W : List Int), W.length = es.length → pickL es (hangsK W W.length) = (pickZ es W).map Prod.fst ∧ (hangsK W W.length).map (fun i => W.getD i 0) = (pickZ es W).map Prod.snd
  | [], [], _ => by simp [hangsK, pickL, pickZ]
  | x :: es, w :: W, h => by
    obtain ⟨h1, h2⟩ := pick_eq es W (by simpa using h)
    have e : (w :: W).length = W.length + 1 := rfl
    have hm : ((hangsK W W.length).map (· + 1)).map (fun i => (w :: W).getD i 0) = (pickZ es W).map Prod.snd := by
      rw [← h2, List.map_map]
      refine List.map_congr_left fun i _ => ?_
      simp
    rw [e, hangsK_cons, pick_cons]
    have ep : ∀ S T, pickL (x :: es) (S ++ T) = pickL (x :: es) S ++ pickL (x :: es) T := fun S T => by unfold pickL; exact List.filterMap_append
    rw [ep, pickL_map, h1, List.map_append, hm]
    by_cases h0 : 0 < w
    · simp [h0, pickL]
    · simp [h0, pickL]
  | [], _ :: _, h => by simp at h
  | _ :: _, [], h => by simp at h
theorem puts_pick (c : Nat) : ∀ (es : List En) (W : List Int), W.length = es.length → (∀ w ∈ W, 0 ≤ w) → putsL (exs es) W c = putsL (exs ((pickZ es W).map Prod.fst)) ((pickZ es W).map Prod.snd) c
  | [], [], _, _ => rfl
  | x :: es, w :: W, h, hw => by
    have ih := puts_pick c es W (by simpa using h) fun v hv => hw v (by simp [hv])
    rw [pick_cons]
    have h0 := hw w (by simp)
    by_cases hp : 0 < w
    · rw [if_pos hp]
      simp only [exs, List.map_cons, putsL] at ih ⊢
      rw [ih]
    · rw [if_neg hp]
      obtain rfl : w = 0 := by omega
      rw [← ih]
      simp [exs, putsL]
  | [], _ :: _, h, _ => by simp at h
  | _ :: _, [], h, _ => by simp at h
theorem spent_pick : ∀ (es : List En) (W : List Int), W.length = es.length → (∀ w ∈ W, 0 ≤ w) → spentL (exs es) W = spentL (exs ((pickZ es W).map Prod.fst)) ((pickZ es W).map Prod.snd)
  | [], [], _, _ => rfl
  | x :: es, w :: W, h, hw => by
    have ih := spent_pick es W (by simpa using h) fun v hv => hw v (by simp [hv])
    rw [pick_cons]
    have h0 := hw w (by simp)
    by_cases hp : 0 < w
    · rw [if_pos hp]
      simp only [exs, List.map_cons, spentL] at ih ⊢
      rw [ih]
    · rw [if_neg hp]
      obtain rfl : w = 0 := by omega
      rw [← ih]
      simp [exs, spentL]
  | [], _ :: _, h, _ => by simp at h
  | _ :: _, [], h, _ => by simp at h
theorem any_pair : ∀ (es : List En) (L : List En), (∀ i x, es[i]? = some x → (L ++ es.take i).any (fun y => eqS y.nm x.nm) = false) ↔ (∀ x ∈ es, L.any (fun y => eqS y.nm x.nm) = false) ∧ es.Pairwise fun y x => eqS y.nm x.nm = false
  | [], L => by simp
  | z :: es, L => by
    have ih := any_pair es (L ++ [z])
    constructor
    · intro h
      have h2 := ih.1 fun i x hx => by
        have := h (i + 1) x (by simpa using hx)
        simpa using this
      refine ⟨fun x hx => ?_, List.pairwise_cons.2 ⟨fun x hx => ?_, h2.2⟩⟩
      · rcases List.mem_cons.1 hx with rfl | hx
        · have := h 0 x rfl
          simpa using this
        · have := h2.1 x hx
          rw [List.any_append, Bool.or_eq_false_iff] at this
          exact this.1
      · have := h2.1 x hx
        rw [List.any_append, Bool.or_eq_false_iff] at this
        simpa using this.2
    · rintro ⟨h1, h2⟩ i x hx
      rw [List.pairwise_cons] at h2
      cases i with
      | zero =>
        obtain rfl : z = x := by simpa using hx
        simpa using h1 z (by simp)
      | succ i =>
        have := ih.2 ⟨fun y hy => by rw [List.any_append, h1 y (by simp [hy])]; simpa using h2.1 y hy, h2.2⟩ i x (by simpa using hx)
        simpa using this
theorem BookR.sub {ps : List Pa} {es es' : List En} (h : BookR ps es) (hs : es'.Sublist es) : BookR ps es' := by
  have hp := ((any_pair es []).1 fun i x hx => by simpa using (h.ent i x hx).2.1).2
  have hp' := (any_pair es' []).2 ⟨fun _ _ => rfl, hp.sublist hs⟩
  refine ⟨h.n1, h.n5, Nat.le_trans hs.length_le h.e8, h.part, fun i x hx => ?_⟩
  obtain ⟨j, hj⟩ := List.getElem?_of_mem (hs.subset (List.mem_of_getElem? hx))
  have := h.ent j x hj
  exact ⟨this.1, by simpa using hp' i x hx, this.2.2⟩
theorem pick_sub (es : List En) (W : List Int) (h : W.length = es.length) : ((pickZ es W).map Prod.fst).Sublist es := by
  have := (List.filter_sublist (p := fun z : En × Int => decide (0 < z.2)) (l := es.zip W)).map Prod.fst
  rw [List.map_fst_zip (by omega)] at this
  exact this
theorem BookR.sig {ps : List Pa} {es es' : List En} (h : BookR ps es) (hs : es'.map En.sig = es.map En.sig) : BookR ps es' := by
  have hl : es'.length = es.length := by have := congrArg List.length hs; simpa using this
  have hn : es'.map En.nm = es.map En.nm := by
    have := congrArg (List.map Prod.fst) hs
    rw [List.map_map, List.map_map] at this
    exact this
  refine ⟨h.n1, h.n5, by have := h.e8; omega, h.part, fun i x hx => ?_⟩
  have h1 : (es.map En.sig)[i]? = some x.sig := by rw [← hs, List.getElem?_map, hx]; rfl
  rw [List.getElem?_map, Option.map_eq_some_iff] at h1
  obtain ⟨y, hy, e⟩ := h1
  obtain ⟨a1, a2, a3, a4⟩ := h.ent i y hy
  simp only [En.sig, Prod.mk.injEq] at e
  obtain ⟨e1, e2, e3⟩ := e
  have ha : ∀ l : List En, l.any (fun z => eqS z.nm x.nm) = (l.map En.nm).any (fun b => eqS b x.nm) := fun l => by rw [List.any_map]; rfl
  refine ⟨by rw [← e1]; exact a1, ?_, by rw [← e2]; exact a3, by rw [← e2, ← e3]; exact a4⟩
  rw [ha, List.map_take, hn, ← List.map_take, ← ha, ← e1]
  exact a2
theorem exs_sig {es es' : List En} (hs : es'.map En.sig = es.map En.sig) : exs es' = exs es := by
  have := congrArg (List.map Prod.snd) hs
  rw [List.map_map, List.map_map] at this
  exact this
/-- THE ENTRIES ALONE: their book is right, and the certificate is right of it. -/
theorem alone_right {ps : List Pa} {es es2 : List En} (hB : BookR ps es) {s : ByteArray} (hs : nameB s.data.toList = true) {k ag v den lev : Int} {W : List Int} (ha : askE k ag = 0) (hv : 0 ≤ v ∧ v ≤ 1000) (hW : WeightR es.length den lev W)
    (hl : ∀ i, i < ps.length → lev ≤ (worthL ps k ag).getD i 0 * den + putsL (exs es) W i) (hb : v * den ≤ perK k (lev - spentL (exs es) W)) (h2 : es2.map En.sig = (pickL es (hangsK W W.length)).map En.sig) :
    BookR ps es2 ∧ checkE ps es2 s k ag v den lev ((hangsK W W.length).map fun i => W.getD i 0) = 0 := by
  obtain ⟨p1, p2⟩ := pick_eq es W hW.len
  have hnn : ∀ w ∈ W, 0 ≤ w := fun w hw => (hW.w w hw).1
  rw [p1] at h2
  have hB2 := (hB.sub (pick_sub es W hW.len)).sig h2
  have hx := exs_sig h2
  have hlen : es2.length = (pickZ es W).length := by have := congrArg List.length h2; simpa using this
  refine ⟨hB2, ?_⟩
  rw [p2]
  refine checkE_zero hB2 hs ha hv ⟨by simp [hlen], hW.d1, hW.dK, hW.lK, fun x hx => ?_⟩ (fun i hi => ?_) ?_
  · obtain ⟨z, hz, rfl⟩ := List.mem_map.1 hx
    exact hW.w _ (List.of_mem_zip (List.mem_filter.1 hz).1).2
  · rw [hx, ← puts_pick i es W hW.len hnn]
    exact hl i hi
  · rw [hx, ← spent_pick es W hW.len hnn]
    exact hb
/-- The least set. -/
def leastSetL (P : List Nat → Bool) (n : Nat) : Option (List Nat) := (List.range (n + 1)).findSome? fun size => (cmb 0 n size).find? P
theorem leastSetL_le {P : List Nat → Bool} {n : Nat} {l : List Nat} (hl : Asc 0 n l) (hP : P l = true) (hn : l.length ≤ n) : ∃ g, leastSetL P n = some g ∧ g.length ≤ l.length := by
  unfold leastSetL
  have hmem : l ∈ cmb 0 n l.length := mem_cmb 0 n l (by rw [Nat.zero_add]; exact hl)
  have key : ∀ (R : List Nat), l.length ∈ R → R.Pairwise (· < ·) → ∃ g, (R.findSome? fun size => (cmb 0 n size).find? P) = some g ∧ g.length ≤ l.length := by
    intro R
    induction R with
    | nil => intro h; simp at h
    | cons r R ih =>
      intro hm hp
      rw [List.pairwise_cons] at hp
      rw [List.findSome?_cons]
      cases hf : (cmb 0 n r).find? P with
      | some g =>
        refine ⟨g, rfl, ?_⟩
        rw [cmb_len 0 n r g (List.mem_of_find?_eq_some hf)]
        rcases List.mem_cons.1 hm with h | h
        · omega
        · exact Nat.le_of_lt (hp.1 _ h)
      | none =>
        rcases List.mem_cons.1 hm with h | h
        · subst h
          exact absurd hP (by simpa using List.find?_eq_none.1 hf l hmem)
        · exact ih h hp.2
  exact key _ (List.mem_range.2 (by omega)) List.pairwise_lt_range
theorem asc_filter (p : Nat → Bool) : ∀ (n a : Nat), Asc a (a + n) ((List.range' a n).filter p)
  | 0, a => by simp [Asc]
  | n + 1, a => by
    have ih := asc_filter p n (a + 1)
    rw [show a + 1 + n = a + (n + 1) by omega] at ih
    rw [List.range'_succ, List.filter_cons]
    split
    · exact ⟨Nat.le_refl _, by omega, ih⟩
    · exact Asc.mono (by omega) ih
theorem hangsK_asc (W : List Int) (n : Nat) : Asc 0 n (hangsK W n) := by
  have := asc_filter (fun i => decide (0 < W.getD i 0)) n 0
  rw [Nat.zero_add] at this
  unfold hangsK
  rw [List.range_eq_range']
  exact this
/-- THE GROUND: the entries that a certificate hangs on reach its value alone, so the least set is no longer. -/
theorem ground_le {ps : List Pa} {es : List En} (hB : BookR ps es) {k ag v den lev : Int} {W : List Int} (hW : WeightR es.length den lev W) 
    (hl : ∀ i, i < ps.length → lev ≤ (worthL ps k ag).getD i 0 * den + putsL (exs es) W i) (hb : v * den ≤ perK k (lev - spentL (exs es) W)) :
    ∃ g, leastSetL (fun S => standsB ps.length (exs (pickL es S)) (worthL ps k ag) k v) es.length = some g ∧ g.length ≤ (hangsK W W.length).length := by
  obtain ⟨p1, p2⟩ := pick_eq es W hW.len
  have hnn : ∀ w ∈ W, 0 ≤ w := fun w hw => (hW.w w hw).1
  have hB2 := hB.sub (pick_sub es W hW.len)
  have hlen := hW.len
  refine leastSetL_le (by have := hangsK_asc W W.length; rwa [hlen] at this ⊢) ?_ (by have := hangsK_len W W.length; omega)
  rw [p1]
  unfold standsB
  split
  · rfl
  rename_i m d p hs
  have hD := dual_of hB2.right hB2.n1 hB2.n5 (worthL_len _ _ _) hs
  have hwk := weak (es := exs ((pickZ es W).map Prod.fst)) (ws := worthL ps k ag) (W := (pickZ es W).map Prod.snd) (m := m) (den := den) (lev := lev) (d := d) (fun x hx => by
      obtain ⟨y, hy, rfl⟩ := List.mem_map.1 hx
      rw [hD.mlen, worthL_len]
      exact (hB2.right.co y hy).1) hD.mlen.symm hD.mnn hD.sum (fun w hw => by
      obtain ⟨z, hz, rfl⟩ := List.mem_map.1 hw
      exact hnn _ (List.of_mem_zip (List.mem_filter.1 hz).1).2) (fun i hi => by
      rw [← puts_pick i es W hW.len hnn]
      exact hl i (by rw [hD.mlen, worthL_len] at hi; exact hi)) fun i x w hx _ _ => hD.per x (List.mem_of_getElem? hx)
  rw [← spent_pick es W hW.len hnn] at hwk
  rw [Bool.not_eq_true']
  refine lessB_iff.2 ?_
  have hd := hW.d1
  refine Int.le_of_mul_le_mul_right (a := den) ?_ (by omega)
  rw [← perK_mul]
  refine Int.le_trans ?_ (perK_mono hwk)
  rw [perK_mul]
  have := Int.mul_le_mul_of_nonneg_right hb (show 0 ≤ d by have := hD.d0; omega)
  grind
end Go.Proofs

set_option linter.unusedSimpArgs false
set_option linter.unusedVariables false
namespace Go.Proofs
open Go.RowKit
set_option linter.unusedVariables false
/-! The reference's checks: what 0 says. -/
set_option maxRecDepth 100000 in
theorem refSmall_any (n m : Int) (w : World) (hm : m.natAbs ≤ 9000000000000000000) : Calls Tryz.prog 61 #[.int .i64 n, .int .i64 m] w fun e w' => e = .returned (.bool (smallB n m)) ∧ w = w' := by
  have hw : IntKind.i64.wrap (-m) = -m := IntWalk.i64_in _ (by omega)
  go_enter Tryz.func61, Tryz.ntmps61
  go_wp2_with (go_at_call 25; refine (refWithin_any _ _ _ _).mono ?_; rintro e w' ⟨rfl, rfl⟩)
  go_ret
  exact ⟨ret_bool (by simp [smallB]), rfl⟩
set_option maxRecDepth 100000 in
theorem refRange_any (lo hi m : Int) (w : World) : Calls Tryz.prog 27 #[.agg #[.int .i64 lo, .int .i64 hi], .int .i64 m] w fun e w' => (∃ E : Int, e = .returned (.int .i64 E) ∧ (E = 0 → rangeE lo hi m = 0)) ∧ Below w.heap.size w w' := by
  have hW1 := Lib.hid fun W => refWithin_any lo 0 m W
  have hW2 := Lib.hid fun W => refWithin_any hi 0 m W
  obtain ⟨b1, h1⟩ : ∃ b, within lo 0 m = b := ⟨_, rfl⟩
  obtain ⟨b2, h2⟩ : ∃ b, within hi 0 m = b := ⟨_, rfl⟩
  have hfin : Hid (b1 = true → b2 = true → lo ≤ hi → rangeE lo hi m = 0) := Lib.hid fun e1 e2 e3 => by
    rw [rangeE_zero]
    rw [e1, within_iff] at h1
    rw [e2, within_iff] at h2
    exact ⟨h1.1, h1.2, h2.1, h2.2, e3⟩
  rw [h1] at hW1
  rw [h2] at hW2
  clear h1 h2
  cases b1
  · go_enter Tryz.func27, Tryz.ntmps27
    go_wp2_with (go_at_call 25; first | (refine Calls.mono (by with_reducible exact hW1.out _) ?_; rintro e w' ⟨rfl, rfl⟩) | (refine Calls.mono (by with_reducible exact hW2.out _) ?_; rintro e w' ⟨rfl, rfl⟩))
    go_ret
    exact ⟨⟨2, rfl, fun h => absurd h (by decide)⟩, by go_grown⟩
  cases b2
  · go_enter Tryz.func27, Tryz.ntmps27
    go_wp2_with (go_at_call 25; first | (refine Calls.mono (by with_reducible exact hW1.out _) ?_; rintro e w' ⟨rfl, rfl⟩) | (refine Calls.mono (by with_reducible exact hW2.out _) ?_; rintro e w' ⟨rfl, rfl⟩))
    go_ret
    exact ⟨⟨2, rfl, fun h => absurd h (by decide)⟩, by go_grown⟩
  by_cases h3 : hi < lo
  · go_enter Tryz.func27, Tryz.ntmps27
    go_wp2_with (go_at_call 25; first | (refine Calls.mono (by with_reducible exact hW1.out _) ?_; rintro e w' ⟨rfl, rfl⟩) | (refine Calls.mono (by with_reducible exact hW2.out _) ?_; rintro e w' ⟨rfl, rfl⟩))
    go_ret
    exact ⟨⟨9, rfl, fun h => absurd h (by decide)⟩, by go_grown⟩
  · go_enter Tryz.func27, Tryz.ntmps27
    go_wp2_with (go_at_call 25; first | (refine Calls.mono (by with_reducible exact hW1.out _) ?_; rintro e w' ⟨rfl, rfl⟩) | (refine Calls.mono (by with_reducible exact hW2.out _) ?_; rintro e w' ⟨rfl, rfl⟩))
    go_ret
    exact ⟨⟨0, rfl, fun _ => hfin.out (by simp) (by simp) (by omega)⟩, by go_grown⟩
set_option maxRecDepth 100000 in
theorem refAsk_any (k ag : Int) (w : World) : Calls Tryz.prog 6 #[.agg #[.int .i64 k, .int .i64 ag]] w fun e w' => (∃ E : Int, e = .returned (.int .i64 E) ∧ (E = 0 → askE k ag = 0)) ∧ Below w.heap.size w w' := by
  have hW1 := Lib.hid fun W => refWithin_any k 0 1 W
  have hW2 := Lib.hid fun W => refWithin_any ag 0 400 W
  obtain ⟨b1, h1⟩ : ∃ b, within k 0 1 = b := ⟨_, rfl⟩
  obtain ⟨b2, h2⟩ : ∃ b, within ag 0 400 = b := ⟨_, rfl⟩
  have hfin : Hid (b1 = true → b2 = true → askE k ag = 0) := Lib.hid fun e1 e2 => by
    rw [askE_zero]
    rw [e1, within_iff] at h1
    rw [e2, within_iff] at h2
    exact ⟨by omega, h2.1, h2.2⟩
  rw [h1] at hW1
  rw [h2] at hW2
  clear h1 h2
  cases b1
  · go_enter Tryz.func6, Tryz.ntmps6
    go_wp2_with (go_at_call 25; first | (refine Calls.mono (by with_reducible exact hW1.out _) ?_; rintro e w' ⟨rfl, rfl⟩) | (refine Calls.mono (by with_reducible exact hW2.out _) ?_; rintro e w' ⟨rfl, rfl⟩))
    go_ret
    exact ⟨⟨15, rfl, fun h => absurd h (by decide)⟩, by go_grown⟩
  cases b2
  · go_enter Tryz.func6, Tryz.ntmps6
    go_wp2_with (go_at_call 25; first | (refine Calls.mono (by with_reducible exact hW1.out _) ?_; rintro e w' ⟨rfl, rfl⟩) | (refine Calls.mono (by with_reducible exact hW2.out _) ?_; rintro e w' ⟨rfl, rfl⟩))
    go_ret
    exact ⟨⟨2, rfl, fun h => absurd h (by decide)⟩, by go_grown⟩
  · go_enter Tryz.func6, Tryz.ntmps6
    go_wp2_with (go_at_call 25; first | (refine Calls.mono (by with_reducible exact hW1.out _) ?_; rintro e w' ⟨rfl, rfl⟩) | (refine Calls.mono (by with_reducible exact hW2.out _) ?_; rintro e w' ⟨rfl, rfl⟩))
    go_ret
    exact ⟨⟨0, rfl, fun _ => hfin.out (by simp) (by simp)⟩, by go_grown⟩
set_option maxRecDepth 100000 in
set_option maxHeartbeats 4000000 in
theorem refEntry_any (pA eA : Option Addr) (pc ec pn en i : Nat) (ps : List Pa) (es : List En) (x : En) (w : World) (hB : BookAt w pA pc ps eA ec es) (hF : FewB ps es) (hpn : ps.length = pn) (hen : es.length = en) (hx : es[i]? = some x) :
    Calls Tryz.prog 28 #[.agg #[.slice pA pn pc, .slice eA en ec], .int .i64 i] w fun e w' => (∃ E : Int, e = .returned (.int .i64 E) ∧ (E = 0 → entE pn es i x = 0)) ∧ Below w.heap.size w w' := by
  have hie : i < en := by rw [← hen]; exact (List.getElem?_eq_some_iff.1 hx).1
  have hec : en ≤ ec := by rw [← hen]; exact hB.ec'
  have he1 : en ≤ 1000 := by rw [← hen]; exact hF.e
  have hp1 : pn ≤ 1000 := by rw [← hpn]; exact hF.p
  have hxm := List.mem_of_getElem? hx
  have hNm := Lib.hid fun W => refName_any x.nm W (by have := hF.en x hxm; omega)
  have hL1 : x.co.length ≤ 1000 := hF.co x hxm
  have hfin : Hid (nameB x.nm.data.toList = true → (∀ k, k < i → ∀ y, es[k]? = some y → eqS y.nm x.nm = false) → x.co.length = pn → (∀ k, k < x.co.length → smallB (x.co.getD k 0) 20 = true) → smallB x.mo 20 = true → entE pn es i x = 0) := Lib.hid fun h1 h2 h3 h4 h5 => by
    unfold entE
    rw [firstE_zero]
    simp only [List.mem_cons, List.not_mem_nil, or_false, forall_eq_or_imp, forall_eq]
    refine ⟨(unl_zero (by decide)).2 h1, (unl_zero (by decide)).2 ?_, (unl_zero (by decide)).2 (by simpa using h3), (unl_zero (by decide)).2 ?_⟩
    · rw [Bool.not_eq_true', List.any_eq_false]
      intro y hy
      obtain ⟨k, hk⟩ := List.getElem?_of_mem hy
      rw [List.getElem?_take] at hk
      split at hk
      · rename_i hki
        rw [h2 k hki y hk]
        decide
      · cases hk
    · rw [Bool.not_eq_true', List.any_eq_false]
      intro n hn
      rcases List.mem_cons.1 hn with rfl | hn
      · simp [h5]
      · obtain ⟨k, hk⟩ := List.getElem?_of_mem hn
        have h := h4 k (List.getElem?_eq_some_iff.1 hk).1
        rw [List.getD_eq_getElem?_getD, hk] at h
        simp only [Option.getD_some] at h
        simp [h]
  have hE' := Lib.hid hB.E
  have hen' := Lib.hid hen
  have hCo := Lib.hid fun W (hb : Below w.heap.size w W) => (hB.E.below hb).2 x hxm
  obtain ⟨bn, hbn⟩ : ∃ b, nameB x.nm.data.toList = b := ⟨_, rfl⟩
  rw [hbn] at hfin hNm
  obtain ⟨b, o, rfl, hbb, hc⟩ := hB.E.1 i x hx
  have y0 := hc 0 _ rfl
  have y1 := hc 1 _ rfl
  have y2 := hc 2 _ rfl
  simp only [Nat.add_zero] at y0
  have hiI : (i : Int) < (en : Int) := by omega
  obtain ⟨L, hL⟩ : ∃ L, x.co.length = L := ⟨_, rfl⟩
  have hL' := Lib.hid hL
  obtain ⟨XA, hXA⟩ : ∃ a, x.A = a := ⟨_, rfl⟩
  rw [hL] at y1 hL1
  rw [hXA] at y1 hCo
  clear hB hF hpn hen hx hxm hbn hc hL hXA
  cases bn
  · go_enter Tryz.func28, Tryz.ntmps28
    go_wp2_with (go_at_call 26; refine (hNm.out _).mono ?_; rintro e w' ⟨rfl, rfl⟩)
    go_ret
    exact ⟨⟨4, rfl, fun h => absurd h (by decide)⟩, by go_grown⟩
  go_enter Tryz.func28, Tryz.ntmps28
  go_wp2_with (go_at_call 26; refine (hNm.out _).mono ?_; rintro e w' ⟨rfl, rfl⟩)
  go_loopw [6] (fun j wr => ∃ k : Nat, k ≤ i ∧ j = .int .i64 k ∧ Hid (∀ q, q < k → ∀ y, es[q]? = some y → eqS y.nm x.nm = false) ∧ wr.heap[w.heap.size]? = some (.cells #[.slice pA pn pc, .slice (some ⟨b, o, none⟩) en ec] 25 (0, 0)) ∧ wr.heap[w.heap.size + 1]? = some (.cells #[.string x.nm, .slice XA L x.c, .int .i64 x.mo] 73 (0, 0)) ∧ Below w.heap.size w wr) (fun j _ => i - (intOf j).toNat)
  case atStart => exact ⟨0, Nat.zero_le _, rfl, fun q hq => by omega, by (repeat (first | assumption | (refine bk_new _ _ ?_; (simp; done)) | refine bk_drew ?_ | refine bk_alloc ?_ _ | refine bk_set ?_ (by simp <;> omega) _)), by (repeat (first | assumption | (refine bk_new _ _ ?_; (simp; done)) | refine bk_drew ?_ | refine bk_alloc ?_ _ | refine bk_set ?_ (by simp <;> omega) _)), by go_grown⟩
  case round =>
    clear y0 y1 y2
    obtain ⟨k, hk, rfl, hz, M0, M1, hbw⟩ := hrel
    have D0 := bk2 M0
    have D1 := bk3 M1
    by_cases hki : k < i
    · have hkI : (k : Int) < (i : Int) := by omega
      obtain ⟨y, hy⟩ : ∃ y, es[k]? = some y := ⟨_, List.getElem?_eq_getElem (by rw [hen'.out]; omega)⟩
      obtain ⟨b2, o2, hA2, hbb2, hc⟩ := (hE'.out.below hbw).1 k y hy
      obtain ⟨rfl, rfl⟩ : b = b2 ∧ o = o2 := by cases hA2; exact ⟨rfl, rfl⟩
      have z0 := hc 0 _ rfl
      simp only [Nat.add_zero] at z0
      have hkc : (k : Int) < (en : Int) := by omega
      have hkc0 : (0 : Int) ≤ (k : Int) := by omega
      have hy' := Lib.hid hy
      clear hc hy
      go_wp2
      refine region_all w (by kernel_rfl) (by kernel_rfl) (by go_grown) ?_
      intro hgc hbx
      repeat (go_big_quiet_step (fail))
      refine wpQuiet_nil ?_
      intro wb hb_wb hw_wb hs_wb
      clear hgc hbx
      have P0 := bk_keep hb_wb M0
      have P1 := bk_keep hb_wb M1
      clear D0 D1 z0 M0 M1
      have D0 := bk2 P0
      have D1 := bk3 P1
      go_wp2
      · go_ret
        exact ⟨⟨5, rfl, fun h => absurd h (by decide)⟩, by go_grown⟩
      · rename_i hq2
        have hz2 := Lib.hid (show ∀ q, q < k + 1 → ∀ y, es[q]? = some y → eqS y.nm x.nm = false from fun q hq y2 hy2 => by
          by_cases hqk : q = k
          · subst hqk
            rw [hy'.out] at hy2
            cases hy2
            exact hq2
          · exact hz.out q (by omega) y2 hy2)
        go_roundw
        case rel => exact ⟨k + 1, by omega, by go_num, hz2.out, P0, P1, hw_wb⟩
        case measure => first | (simp [intOf]; done) | (simp [intOf]; omega)
    · obtain rfl : i = k := by omega
      clear hki
      by_cases hLp : L = pn
      case neg =>
        have hLI : ¬ (L : Int) = (pn : Int) := by omega
        go_wp2
        go_ret
        exact ⟨⟨10, rfl, fun h => absurd h (by decide)⟩, by go_grown⟩
      have hLI : (L : Int) = (pn : Int) := by omega
      have hLp' := Lib.hid hLp
      clear hLp
      go_wp2
      clear hLI
      go_loopw [7] (fun j wr => ∃ k : Nat, k ≤ L ∧ j = .int .i64 k ∧ Hid (∀ q, q < k → smallB (x.co.getD q 0) 20 = true) ∧ wr.heap[w.heap.size]? = some (.cells #[.slice pA pn pc, .slice (some ⟨b, o, none⟩) en ec] 25 (0, 0)) ∧ wr.heap[w.heap.size + 1]? = some (.cells #[.string x.nm, .slice XA L x.c, .int .i64 x.mo] 73 (0, 0)) ∧ Below w.heap.size w wr) (fun j _ => L - (intOf j).toNat)
      case atStart => exact ⟨0, Nat.zero_le _, rfl, fun q hq => by omega, M0, M1, hbw⟩
      case round =>
        clear D0 D1 M0 M1 hbw
        obtain ⟨k, hk, rfl, hcc, M0, M1, hbw⟩ := hrel
        have D0 := bk2 M0
        have D1 := bk3 M1
        by_cases hkL : k < L
        · have hkI : (k : Int) < (L : Int) := by omega
          obtain ⟨cv, hcv⟩ : ∃ z, x.co[k]? = some z := ⟨_, List.getElem?_eq_getElem (by rw [hL'.out]; omega)⟩
          have hcd : x.co.getD k 0 = cv := by rw [List.getD_eq_getElem?_getD, hcv]; rfl
          obtain ⟨b3, o3, rfl, hb3, hc3⟩ := hCo.out _ hbw k cv hcv
          have z0 := hc3 0 _ rfl
          simp only [Nat.add_zero, Nat.mul_one] at z0
          have hcd' := Lib.hid hcd
          have hSm := Lib.hid fun W => refSmall_any cv 20 W (by decide)
          obtain ⟨sb, hsb⟩ : ∃ q, smallB cv 20 = q := ⟨_, rfl⟩
          rw [hsb] at hSm
          have hsb' := Lib.hid hsb
          clear hc3 hcv hcd hsb
          cases sb
          · go_wp2_with (go_at_call 61; refine (hSm.out _).mono ?_; rintro e w' ⟨rfl, rfl⟩)
            go_ret
            exact ⟨⟨2, rfl, fun h => absurd h (by decide)⟩, by go_grown⟩
          · have hz2 := Lib.hid (show ∀ q, q < k + 1 → smallB (x.co.getD q 0) 20 = true from fun q hq => by
              by_cases hqk : q = k
              · subst hqk
                rw [hcd'.out]
                exact hsb'.out
              · exact hcc.out q (by omega))
            go_wp2_with (go_at_call 61; refine (hSm.out _).mono ?_; rintro e w' ⟨rfl, rfl⟩)
            go_roundw
            case rel =>
              exact ⟨k + 1, by omega, by go_num, hz2.out, M0, M1, hbw⟩
            case measure => first | (simp [intOf]; done) | (simp [intOf]; omega)
        · obtain rfl : L = k := by omega
          have hSm := Lib.hid fun W => refSmall_any x.mo 20 W (by decide)
          obtain ⟨sb, hsb⟩ : ∃ q, smallB x.mo 20 = q := ⟨_, rfl⟩
          rw [hsb] at hSm hfin
          clear hsb hkL
          cases sb
          · go_wp2_with (go_at_call 61; refine (hSm.out _).mono ?_; rintro e w' ⟨rfl, rfl⟩)
            go_ret
            exact ⟨⟨2, rfl, fun h => absurd h (by decide)⟩, by go_grown⟩
          · go_wp2_with (go_at_call 61; refine (hSm.out _).mono ?_; rintro e w' ⟨rfl, rfl⟩)
            go_ret
            exact ⟨⟨0, rfl, fun _ => hfin.out (by simp) hz.out (by rw [hL'.out]; exact hLp'.out) (fun q hq => hcc.out q (by rw [hL'.out] at hq; exact hq)) (by simp)⟩, by go_grown⟩
end Go.Proofs
