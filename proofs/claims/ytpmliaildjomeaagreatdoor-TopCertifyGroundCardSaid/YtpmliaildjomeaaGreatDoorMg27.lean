import Derived.Test.YtpmliaildjomeaaGreatDoorMg26
import Derived.RowKit
import Derived.Lib.Split
import Derived.Lib.Join
import Derived.Lib.Atoi
import Derived.Lib.ItoaNum
import Derived.Lib.Strings
set_option linter.unusedSimpArgs false
set_option linter.unusedVariables false
namespace Go.Proofs
open Go.RowKit
set_option linter.unusedVariables false
/-! The reference's CheckBook: what 0 says. -/
theorem bookV_zero {ps : List Pa} {es : List En} (h1 : ps.length ≠ 0) (h2 : ps.length ≤ 5) (h3 : ∀ i p, ps[i]? = some p → partE ps i p = 0) (h4 : es.length ≤ 8) (h5 : ∀ i x, es[i]? = some x → entE ps.length es i x = 0) : (bookV ps es).2 = 0 := by
  have hs : sizeE ps.length = 0 := by
    unfold sizeE
    rw [firstE_zero]
    simp only [List.mem_cons, List.not_mem_nil, or_false, forall_eq_or_imp, forall_eq]
    exact ⟨(unl_zero (by decide)).2 (by simp; omega), (unl_zero (by decide)).2 (by simpa using h2)⟩
  unfold bookV
  rw [hs, if_neg (by simp), scanL_none (partEs ps) 0 fun i hi => ?_]
  · dsimp only
    rw [if_neg (by omega), scanL_none (entEs ps.length es) 0 fun i hi => ?_]
    obtain ⟨x, hx⟩ : ∃ x, es[i]? = some x := ⟨_, List.getElem?_eq_getElem (by simpa [entEs] using hi)⟩
    rw [entEs_get hx]
    exact h5 i x hx
  · obtain ⟨x, hx⟩ : ∃ x, ps[i]? = some x := ⟨_, List.getElem?_eq_getElem (by simpa [partEs] using hi)⟩
    rw [partEs_get hx]
    exact h3 i x hx
theorem partE_zero {ps : List Pa} {i : Nat} {p : Pa} (h1 : nameB p.nm.data.toList = true) (h2 : ∀ k, k < i → ∀ y, ps[k]? = some y → eqS y.nm p.nm = false) (h3 : rangeE p.a0 p.a1 400 = 0) (h4 : rangeE p.c0 p.c1 20 = 0) : partE ps i p = 0 := by
  unfold partE
  rw [firstE_zero]
  simp only [List.mem_cons, List.not_mem_nil, or_false, forall_eq_or_imp, forall_eq]
  refine ⟨(unl_zero (by decide)).2 h1, (unl_zero (by decide)).2 ?_, h3, h4⟩
  rw [Bool.not_eq_true', List.any_eq_false]
  intro y hy
  obtain ⟨k, hk⟩ := List.getElem?_of_mem hy
  rw [List.getElem?_take] at hk
  split at hk
  · rename_i hki
    rw [h2 k hki y hk]
    decide
  · cases hk
set_option maxRecDepth 100000 in
set_option maxHeartbeats 4000000 in
theorem refBook_any (pA eA : Option Addr) (pc ec pn en : Nat) (ps : List Pa) (es : List En) (w : World) (hB : BookAt w pA pc ps eA ec es) (hF : FewB ps es) (hpn : ps.length = pn) (hen : es.length = en) :
    Calls Tryz.prog 7 #[.agg #[.slice pA pn pc, .slice eA en ec]] w fun e w' => (∃ n E : Int, e = .returned (.tuple #[.int .i64 n, .int .i64 E]) ∧ (E = 0 → BookR ps es)) ∧ Below w.heap.size w w' := by
  have hpc : pn ≤ pc := by rw [← hpn]; exact hB.pc'
  have hec : en ≤ ec := by rw [← hen]; exact hB.ec'
  have hp1 : pn ≤ 1000 := by rw [← hpn]; exact hF.p
  have he1 : en ≤ 1000 := by rw [← hen]; exact hF.e
  have hfin : Hid (pn ≠ 0 → pn ≤ 5 → (∀ i p, ps[i]? = some p → partE ps i p = 0) → en ≤ 8 → (∀ i x, es[i]? = some x → entE pn es i x = 0) → BookR ps es) := Lib.hid fun h1 h2 h3 h4 h5 => by
    subst hpn
    subst hen
    exact bookR_iff.1 (bookV_zero h1 h2 h3 h4 h5)
  have hEn := Lib.hid fun (i : Nat) (x : En) (W : World) (hb : Below w.heap.size w W) (hx : es[i]? = some x) => refEntry_any pA eA pc ec pn en i ps es x W (hB.below hb) hF hpn hen hx
  have hP := Lib.hid hB.P
  have hNm := Lib.hid fun (p : Pa) (hp : p ∈ ps) W => refName_any p.nm W (by have := hF.pn p hp; omega)
  have hRg := Lib.hid fun lo hi m W => refRange_any lo hi m W
  have hpn' := Lib.hid hpn
  have hen' := Lib.hid hen
  clear hB hF hpn hen
  by_cases h0 : pn = 0
  · subst h0
    go_enter Tryz.func7, Tryz.ntmps7
    go_wp2
    go_ret2
    exact ⟨⟨_, 10, rfl, fun h => absurd h (by decide)⟩, by go_grown⟩
  by_cases h5 : 5 < pn
  · have h0I : ¬ (pn : Int) = 0 := by omega
    have h5I : (5 : Int) < (pn : Int) := by omega
    clear h0
    go_enter Tryz.func7, Tryz.ntmps7
    go_wp2
    go_ret2
    exact ⟨⟨_, 8, rfl, fun h => absurd h (by decide)⟩, by go_grown⟩
  have h0I : ¬ (pn : Int) = 0 := by omega
  have h5I : ¬ (5 : Int) < (pn : Int) := by omega
  have h0' := Lib.hid h0
  clear h0
  go_enter Tryz.func7, Tryz.ntmps7
  go_wp2
  clear h0I h5I
  go_loopw [4] (fun j wr => ∃ k : Nat, k ≤ pn ∧ j = .int .i64 k ∧ Hid (∀ q, q < k → ∀ y, ps[q]? = some y → partE ps q y = 0) ∧ wr.heap[w.heap.size]? = some (.cells #[.slice pA pn pc, .slice eA en ec] 25 (0, 0)) ∧ Below w.heap.size w wr) (fun j _ => pn - (intOf j).toNat)
  case atStart => exact ⟨0, Nat.zero_le _, rfl, fun q hq => by omega, by (repeat (first | assumption | (refine bk_new _ _ ?_; (simp; done)) | refine bk_drew ?_ | refine bk_alloc ?_ _ | refine bk_set ?_ (by simp <;> omega) _)), by go_grown⟩
  case round =>
    obtain ⟨i, hi, rfl, hz, M0, hbw⟩ := hrel
    have D0 := bk2 M0
    by_cases hip : i < pn
    · have hiI : (i : Int) < (pn : Int) := by omega
      obtain ⟨p, hp⟩ : ∃ y, ps[i]? = some y := ⟨_, List.getElem?_eq_getElem (by rw [hpn'.out]; omega)⟩
      obtain ⟨b, o, rfl, hbb, hc⟩ := (hP.out.below hbw) i p hp
      have y0 := hc 0 _ rfl
      have y1 := hc 1 _ rfl
      have y2 := hc 2 _ rfl
      have y3 := hc 3 _ rfl
      have y4 := hc 4 _ rfl
      simp only [Nat.add_zero] at y0
      have hN := Lib.hid (hNm.out p (List.mem_of_getElem? hp))
      obtain ⟨nb, hnb⟩ : ∃ b, nameB p.nm.data.toList = b := ⟨_, rfl⟩
      rw [hnb] at hN
      have hnb' := Lib.hid hnb
      have hp' := Lib.hid hp
      clear hnb hp hc
      cases nb
      · go_wp2_with (go_at_call 26; refine (hN.out _).mono ?_; rintro e w' ⟨rfl, rfl⟩)
        go_ret2
        exact ⟨⟨_, 4, rfl, fun h => absurd h (by decide)⟩, by go_grown⟩
      go_wp2_with (go_at_call 26; refine (hN.out _).mono ?_; rintro e w' ⟨rfl, rfl⟩)
      have M1 := bk_new wr (.cells #[.string p.nm, .int .i64 p.a0, .int .i64 p.a1, .int .i64 p.c0, .int .i64 p.c1] 71 (0, 0)) rfl
      have M0' := bk_alloc M0 (.cells #[.string p.nm, .int .i64 p.a0, .int .i64 p.a1, .int .i64 p.c0, .int .i64 p.c1] 71 (0, 0))
      have hbw2 := via hbw (new_below wr (.cells #[.string p.nm, .int .i64 p.a0, .int .i64 p.a1, .int .i64 p.c0, .int .i64 p.c1] 71 (0, 0)))
      have hz' := Lib.hid (show wr.heap.size < (wr.alloc (.cells #[.string p.nm, .int .i64 p.a0, .int .i64 p.a1, .int .i64 p.c0, .int .i64 p.c1] 71 (0, 0))).heap.size by simp)
      have hwz := Lib.hid (bk_size M0)
      clear D0 M0 y0 y1 y2 y3 y4 hN
      go_loopw [6] (fun j wi => ∃ k : Nat, k ≤ i ∧ j = .int .i64 k ∧ Hid (∀ q, q < k → ∀ y, ps[q]? = some y → eqS y.nm p.nm = false) ∧ wi.heap[w.heap.size]? = some (.cells #[.slice (some ⟨b, o, none⟩) pn pc, .slice eA en ec] 25 (0, 0)) ∧ wi.heap[wr.heap.size]? = some (.cells #[.string p.nm, .int .i64 p.a0, .int .i64 p.a1, .int .i64 p.c0, .int .i64 p.c1] 71 (0, 0)) ∧ Below w.heap.size w wi) (fun j _ => i - (intOf j).toNat)
      case atStart => exact ⟨0, Nat.zero_le _, rfl, fun q hq => by omega, M0', M1, hbw2⟩
      case round =>
        clear M0' M1 hbw hbw2
        obtain ⟨k, hk, rfl, hq0, M0, M1, hbw⟩ := hrel
        have D0 := bk2 M0
        have D1 := bk5 M1
        by_cases hki : k < i
        · have hkI : (k : Int) < (i : Int) := by omega
          obtain ⟨y, hy⟩ : ∃ y, ps[k]? = some y := ⟨_, List.getElem?_eq_getElem (by rw [hpn'.out]; omega)⟩
          obtain ⟨b2, o2, hA2, hbb2, hc⟩ := (hP.out.below hbw) k y hy
          obtain ⟨rfl, rfl⟩ : b = b2 ∧ o = o2 := by cases hA2; exact ⟨rfl, rfl⟩
          have z0 := hc 0 _ rfl
          simp only [Nat.add_zero] at z0
          have hkc : (k : Int) < (pn : Int) := by omega
          have hkc0 : (0 : Int) ≤ (k : Int) := by omega
          have hy' := Lib.hid hy
          clear hc hy
          go_wp2
          refine region_all w (by kernel_rfl) (by kernel_rfl) (by go_grown) ?_
          intro hgc hbx
          repeat (go_big_quiet_step (fail))
          refine wpQuiet_nil ?_
          intro wb hb_wb hw_wb hs_wb
          clear hgc hbx
          have P0 := bk_keep hb_wb M0
          have P1 := bk_keep hb_wb M1
          clear D0 D1 z0 M0 M1
          have D0 := bk2 P0
          have D1 := bk5 P1
          go_wp2
          · go_ret2
            exact ⟨⟨_, 5, rfl, fun h => absurd h (by decide)⟩, by go_grown⟩
          · rename_i hq2
            have hz2 := Lib.hid (show ∀ q, q < k + 1 → ∀ y, ps[q]? = some y → eqS y.nm p.nm = false from fun q hq y2 hy2 => by
              by_cases hqk : q = k
              · subst hqk
                rw [hy'.out] at hy2
                cases hy2
                exact hq2
              · exact hq0.out q (by omega) y2 hy2)
            go_roundw
            case rel => exact ⟨k + 1, by omega, by go_num, hz2.out, P0, P1, hw_wb⟩
            case measure => first | (simp [intOf]; done) | (simp [intOf]; omega)
        · obtain rfl : i = k := by omega
          clear hki
          have hR1 := Lib.hid fun W => hRg.out p.a0 p.a1 400 W
          have hR2 := Lib.hid fun W => hRg.out p.c0 p.c1 20 W
          go_wp2_with (first
            | (go_at_call 27; refine Calls.mono (by with_reducible exact hR1.out _) ?_; rintro e w3 ⟨⟨E1, rfl, hE1⟩, hb3⟩; (have P0 := bk_keep hb3 M0); (have P1 := bk_keep hb3 M1); (have hbw3 := via hbw hb3); clear D0 D1; (have D0 := bk2 P0); (have D1 := bk5 P1); (have hE1' := Lib.hid hE1); clear hE1)
            | (go_at_call 27; refine Calls.mono (by with_reducible exact hR2.out _) ?_; rintro e w4 ⟨⟨E2, rfl, hE2⟩, hb4⟩; (have Q0 := bk_keep hb4 P0); (have Q1 := bk_keep hb4 P1); (have hbw4 := via hbw3 hb4); clear D0 D1; (have D0 := bk2 Q0); (have D1 := bk5 Q1); (have hE2' := Lib.hid hE2); clear hE2))
          · rename_i h9
            go_ret2
            exact ⟨⟨_, E1, rfl, fun h => absurd h (by simpa using h9)⟩, by go_grown⟩
          · rename_i h9
            go_ret2
            exact ⟨⟨_, E2, rfl, fun h => absurd h (by simpa using h9)⟩, by go_grown⟩
          · rename_i h8 h9
            have hE10 : E1 = 0 := by simpa using h8
            have hE20 : E2 = 0 := by simpa using h9
            go_roundw
            case rel => exact ⟨i + 1, by omega, by go_num, (fun q hq y hy => by
              by_cases hqi : q = i
              · subst hqi
                rw [hp'.out] at hy
                cases hy
                exact partE_zero hnb'.out hq0.out (hE1'.out hE10) (hE2'.out hE20)
              · exact hz.out q (by omega) y hy), Q0, hbw4⟩
            case measure => first | (simp [intOf]; done) | (simp [intOf]; omega)
    · obtain rfl : pn = i := by omega
      clear hip
      by_cases h8 : 8 < en
      · have h8I : (8 : Int) < (en : Int) := by omega
        go_wp2
        go_ret2
        exact ⟨⟨_, 8, rfl, fun h => absurd h (by decide)⟩, by go_grown⟩
      have h8I : ¬ (8 : Int) < (en : Int) := by omega
      go_wp2
      clear h8I
      go_loopw [9] (fun j wr => ∃ k : Nat, k ≤ en ∧ j = .int .i64 k ∧ Hid (∀ q, q < k → ∀ y, es[q]? = some y → entE pn es q y = 0) ∧ wr.heap[w.heap.size]? = some (.cells #[.slice pA pn pc, .slice eA en ec] 25 (0, 0)) ∧ Below w.heap.size w wr) (fun j _ => en - (intOf j).toNat)
      case atStart => exact ⟨0, Nat.zero_le _, rfl, fun q hq => by omega, M0, hbw⟩
      case round =>
        clear M0 hbw D0
        obtain ⟨k, hk, rfl, hx0, M0, hbw⟩ := hrel
        have D0 := bk2 M0
        by_cases hke : k < en
        · have hkI : (k : Int) < (en : Int) := by omega
          obtain ⟨x, hx⟩ : ∃ y, es[k]? = some y := ⟨_, List.getElem?_eq_getElem (by rw [hen'.out]; omega)⟩
          have hC := Lib.hid (hEn.out k x _ hbw hx)
          have hx' := Lib.hid hx
          clear hx
          go_wp2_with (go_at_call 28; refine hC.out.mono ?_; rintro e w3 ⟨⟨E1, rfl, hE1⟩, hb3⟩; (have P0 := bk_keep hb3 M0); (have hbw3 := via hbw hb3); clear D0; (have D0 := bk2 P0); (have hE1' := Lib.hid hE1); clear hE1)
          · rename_i h9
            go_ret2
            exact ⟨⟨_, E1, rfl, fun h => absurd h (by simpa using h9)⟩, by go_grown⟩
          · rename_i h9
            have hE10 : E1 = 0 := by simpa using h9
            go_roundw
            case rel => exact ⟨k + 1, by omega, by go_num, (fun q hq y hy => by
              by_cases hqi : q = k
              · subst hqi
                rw [hx'.out] at hy
                cases hy
                exact hE1'.out hE10
              · exact hx0.out q (by omega) y hy), P0, hbw3⟩
            case measure => first | (simp [intOf]; done) | (simp [intOf]; omega)
        · obtain rfl : en = k := by omega
          clear hke
          go_wp2
          go_ret2
          exact ⟨⟨_, 0, rfl, fun _ => hfin.out h0'.out (by omega) (fun q y hy => hz.out q (by have := (List.getElem?_eq_some_iff.1 hy).1; rw [hpn'.out] at this; exact this) y hy) (by omega) (fun q y hy => hx0.out q (by have := (List.getElem?_eq_some_iff.1 hy).1; rw [hen'.out] at this; exact this) y hy)⟩, by go_grown⟩
end Go.Proofs

set_option linter.unusedSimpArgs false
set_option linter.unusedVariables false
namespace Go.Proofs
open Go.RowKit
set_option linter.unusedVariables false
/-! Few: the limits of the statement. -/
theorem take_all {α : Type} {P : α → Prop} {l : List α} {k : Nat} {x : α} (hx : l[k]? = some x) (h : ∀ y ∈ l.take k, P y) (hp : P x) : ∀ y ∈ l.take (k + 1), P y := by
  intro y hy
  rw [List.take_add_one, hx] at hy
  rcases List.mem_append.1 hy with h1 | h1
  · exact h y h1
  · simp at h1
    subst h1
    exact hp
structure FewR (ps : List Pa) (es : List En) : Prop where
  p : ps.length ≤ 4 ∨ (6 ≤ ps.length ∧ ps.length ≤ 7)
  e : es.length ≤ 4 ∨ (9 ≤ es.length ∧ es.length ≤ 10)
  pn : ∀ p ∈ ps, p.nm.size ≤ 20
  en : ∀ x ∈ es, x.nm.size ≤ 20 ∧ x.co.length ≤ 8
theorem FewR.fewB {ps : List Pa} {es : List En} (h : FewR ps es) : FewB ps es := ⟨by have := h.p; omega, by have := h.e; omega, fun p hp => by have := h.pn p hp; omega, fun x hx => by have := (h.en x hx).1; omega, fun x hx => by have := (h.en x hx).2; omega⟩
def FewSaid (ps : List Pa) (es : List En) (e : Ending) : Prop := ∃ r : Bool, e = .returned (.bool r) ∧ (r = true → FewR ps es)
set_option maxRecDepth 100000 in
set_option maxHeartbeats 8000000 in
theorem few_any (pA eA : Option Addr) (pc ec pn en : Nat) (ps : List Pa) (es : List En) (w : World) (hB : BookAt w pA pc ps eA ec es) (hpn : ps.length = pn) (hen : es.length = en) :
    Calls Tryz.prog 5 #[.agg #[.slice pA pn pc, .slice eA en ec]] w fun e w' => FewSaid ps es e ∧ Below w.heap.size w w' := by
  have hpc : pn ≤ pc := by rw [← hpn]; exact hB.pc'
  have hec : en ≤ ec := by rw [← hen]; exact hB.ec'
  have hfin : Hid ((pn ≤ 4 ∨ (6 ≤ pn ∧ pn ≤ 7)) → (en ≤ 4 ∨ (9 ≤ en ∧ en ≤ 10)) → (∀ p ∈ ps, p.nm.size ≤ 20) → (∀ x ∈ es, x.nm.size ≤ 20 ∧ x.co.length ≤ 8) → FewR ps es) := Lib.hid fun h1 h2 h3 h4 => ⟨by rw [hpn]; exact h1, by rw [hen]; exact h2, h3, h4⟩
  have hP := Lib.hid hB.P
  have hE := Lib.hid hB.E
  have hpn' := Lib.hid hpn
  have hen' := Lib.hid hen
  clear hB hpn hen
  by_cases hcn : pn ≤ 7 ∧ (pn ≤ 4 ∨ 5 < pn)
  case neg =>
    by_cases n8 : 4 < (pn : Int)
    all_goals by_cases n40 : (pn : Int) ≤ 5
    all_goals by_cases n42 : 7 < (pn : Int)
    all_goals try (exfalso; omega)
    all_goals clear hcn
    all_goals go_enter Tryz.func5, Tryz.ntmps5
    all_goals go_wp2
    all_goals
      go_ret
      exact ⟨⟨false, rfl, fun h => nomatch h⟩, by go_grown⟩
  by_cases hcm : en ≤ 10 ∧ (en ≤ 4 ∨ 8 < en)
  case neg =>
    by_cases n8 : 4 < (pn : Int)
    all_goals by_cases n40 : (pn : Int) ≤ 5
    all_goals by_cases n42 : 7 < (pn : Int)
    all_goals try (exfalso; omega)
    all_goals by_cases m8 : 4 < (en : Int)
    all_goals by_cases m60 : (en : Int) ≤ 8
    all_goals by_cases m62 : 10 < (en : Int)
    all_goals try (exfalso; omega)
    all_goals clear hcn hcm
    all_goals go_enter Tryz.func5, Tryz.ntmps5
    all_goals go_wp2
    all_goals
      go_ret
      exact ⟨⟨false, rfl, fun h => nomatch h⟩, by go_grown⟩
  by_cases n8 : 4 < (pn : Int)
  all_goals by_cases n40 : (pn : Int) ≤ 5
  all_goals by_cases n42 : 7 < (pn : Int)
  all_goals try (exfalso; omega)
  all_goals by_cases m8 : 4 < (en : Int)
  all_goals by_cases m60 : (en : Int) ≤ 8
  all_goals by_cases m62 : 10 < (en : Int)
  all_goals try (exfalso; omega)
  all_goals
    have hp9 : pn ≤ 9 := by omega
    have he9 : en ≤ 10 := by omega
    have hcn' := Lib.hid hcn
    have hcm' := Lib.hid hcm
    clear hcn hcm
    go_enter Tryz.func5, Tryz.ntmps5
    go_wp2
    clear n8 n40 n42 m8 m60 m62
    go_loopw [3] (fun i wr => ∃ k : Nat, k ≤ pn ∧ i = .int .i64 k ∧ Hid (∀ x ∈ ps.take k, x.nm.size ≤ 20) ∧ Below w.heap.size w wr ∧ wr.heap[w.heap.size]? = some (.cells #[.slice pA pn pc, .slice eA en ec] 25 (0, 0))) (fun i _ => pn - (intOf i).toNat)
    case atStart => exact ⟨0, Nat.zero_le _, rfl, by simp [Hid], new_below _ _, by (repeat (first | assumption | (refine bk_new _ _ ?_; (simp; done)) | refine bk_drew ?_ | refine bk_alloc ?_ _ | refine bk_set ?_ (by simp <;> omega) _))⟩
    case round =>
      obtain ⟨k, hk, rfl, hall, hbw, B0⟩ := hrel
      have C0 := bk2 B0
      by_cases hlt : k < pn
      · obtain ⟨x, hx⟩ : ∃ x, ps[k]? = some x := ⟨_, List.getElem?_eq_getElem (by rw [hpn'.out]; exact hlt)⟩
        obtain ⟨b, o, rfl, hbl, hc⟩ := (hP.out.below hbw) k x hx
        have hx' := Lib.hid hx
        have c0 := hc 0 _ rfl
        simp only [Nat.add_zero] at c0
        have hkI : (k : Int) < (pn : Int) := by omega
        clear hx hc
        by_cases g1 : 20 < (x.nm.size : Int)
        · go_wp2
          go_ret
          exact ⟨⟨false, rfl, fun h => nomatch h⟩, by go_grown⟩
        · have hgo := Lib.hid (take_all (P := fun x : Pa => x.nm.size ≤ 20) hx'.out hall.out (by omega))
          go_wp2
          go_roundw
          case rel => exact ⟨k + 1, by omega, by go_num, hgo.out, hbw, B0⟩
          case measure => first | (simp [intOf]; done) | (simp [intOf]; omega)
      · have hkn : k = pn := by omega
        have hall2 : Hid (∀ x ∈ ps, x.nm.size ≤ 20) := Lib.hid (by have := hall.out; rwa [List.take_of_length_le (by rw [hpn'.out]; omega)] at this)
        obtain rfl : pn = k := hkn.symm
        clear hall hlt
        go_wp2
        go_loopw [4] (fun i wr => ∃ q : Nat, q ≤ en ∧ i = .int .i64 q ∧ Hid (∀ x ∈ es.take q, x.nm.size ≤ 20 ∧ x.co.length ≤ 8) ∧ Below w.heap.size w wr ∧ wr.heap[w.heap.size]? = some (.cells #[.slice pA pn pc, .slice eA en ec] 25 (0, 0))) (fun i _ => en - (intOf i).toNat)
        case atStart => exact ⟨0, Nat.zero_le _, rfl, by simp [Hid], hbw, B0⟩
        case round =>
          clear C0 B0 hbw
          obtain ⟨k2, hk2, rfl, hall, hbw, B0⟩ := hrel
          have C0 := bk2 B0
          by_cases hlt2 : k2 < en
          · obtain ⟨x, hx⟩ : ∃ x, es[k2]? = some x := ⟨_, List.getElem?_eq_getElem (by rw [hen'.out]; exact hlt2)⟩
            obtain ⟨b, o, rfl, hbl, hc⟩ := (hE.out.below hbw).1 k2 x hx
            have hx' := Lib.hid hx
            have c0 := hc 0 _ rfl
            have c1 := hc 1 _ rfl
            simp only [Nat.add_zero] at c0
            have hkI : (k2 : Int) < (en : Int) := by omega
            clear hx hc
            by_cases g1 : 20 < (x.nm.size : Int)
            · go_wp2
              go_ret
              exact ⟨⟨false, rfl, fun h => nomatch h⟩, by go_grown⟩
            · by_cases g2 : 8 < (x.co.length : Int)
              · go_wp2
                go_ret
                exact ⟨⟨false, rfl, fun h => nomatch h⟩, by go_grown⟩
              · have hgo := Lib.hid (take_all (P := fun x : En => x.nm.size ≤ 20 ∧ x.co.length ≤ 8) hx'.out hall.out ⟨by omega, by omega⟩)
                go_wp2
                go_roundw
                case rel => exact ⟨k2 + 1, by omega, by go_num, hgo.out, hbw, B0⟩
                case measure => first | (simp [intOf]; done) | (simp [intOf]; omega)
          · obtain rfl : en = k2 := by omega
            clear hlt2
            go_wp2
            go_ret
            refine ⟨⟨true, rfl, fun _ => hfin.out (by have := hcn'.out; omega) (by have := hcm'.out; omega) hall2.out ?_⟩, by go_grown⟩
            have := hall.out
            rwa [List.take_of_length_le (by rw [hen'.out]; omega)] at this
end Go.Proofs

set_option linter.unusedSimpArgs false
set_option linter.unusedVariables false
namespace Go.Proofs
open Go Go.Lib

/-! Texts: the plain law. -/
/-- A text, cut at each blank. -/
def cutL : List UInt8 → List (List UInt8)
  | [] => [[]]
  | c :: l => if c = 32 then [] :: cutL l else match cutL l with
    | h :: t => (c :: h) :: t
    | [] => [[c]]
theorem cutL_cons (c : UInt8) (l : List UInt8) : ∃ h t, cutL l = h :: t := by
  cases l with
  | nil => exact ⟨[], [], rfl⟩
  | cons d l =>
    unfold cutL
    by_cases hd : d = 32
    · rw [if_pos hd]; exact ⟨_, _, rfl⟩
    · rw [if_neg hd]
      cases cutL l with
      | nil => exact ⟨_, _, rfl⟩
      | cons h t => exact ⟨_, _, rfl⟩
theorem cutL_none : ∀ (a : List UInt8), (∀ c ∈ a, c ≠ 32) → cutL a = [a]
  | [], _ => rfl
  | c :: a, h => by
    unfold cutL
    rw [if_neg (h c (List.mem_cons_self ..)), cutL_none a (fun d hd => h d (List.mem_cons_of_mem _ hd))]
theorem cutL_hit : ∀ (a b : List UInt8), (∀ c ∈ a, c ≠ 32) → cutL (a ++ 32 :: b) = a :: cutL b
  | [], b, _ => by simp [cutL]
  | c :: a, b, h => by
    rw [List.cons_append, cutL, if_neg (h c (List.mem_cons_self ..)), cutL_hit a b (fun d hd => h d (List.mem_cons_of_mem _ hd))]
theorem occ_blank (s : List UInt8) (i : Nat) : occAt s [32] i = (s[i]? == some 32) := by
  unfold occAt
  cases h : s.drop i with
  | nil =>
    have : s[i]? = none := by
      rw [List.getElem?_eq_none_iff]
      exact List.drop_eq_nil_iff.1 h
    rw [this]
    rfl
  | cons c l =>
    have : s[i]? = some c := by
      rw [← List.head?_drop, h]
      rfl
    rw [this]
    simp only [List.isPrefixOf, Bool.and_true]
    rw [Bool.eq_iff_iff]
    simp only [beq_iff_eq, Option.some.injEq]
    exact ⟨fun e => e.symm, fun e => e.symm⟩
theorem split_cut : ∀ (n : Nat) (s : List UInt8), s.length ≤ n → splitK [32] 0 (count s [32]) s = cutL s := by
  intro n
  induction n with
  | zero =>
    intro s hs
    have : s = [] := List.eq_nil_of_length_eq_zero (by omega)
    subst this
    decide +kernel
  | succ n ih =>
    intro s hs
    rcases index_spec s [32] with ⟨h, hno⟩ | ⟨i, h, hi, hoc, hno⟩
    · rw [count_miss h]
      have hc : ∀ c ∈ s, c ≠ 32 := by
        intro c hcm e
        subst e
        obtain ⟨j, hj⟩ := List.getElem?_of_mem hcm
        have hlt := (List.getElem?_eq_some_iff.1 hj).1
        have := hno j (by omega)
        rw [occ_blank, hj] at this
        simp at this
      rw [cutL_none s hc]
      rfl
    · rw [count_hit (by simp) h, Nat.add_comm, splitK]
      have hm : ¬ (index s [32] == -1) = true := fun e => by have := beq_iff_eq.1 e; omega
      rw [if_neg hm, h]
      rw [occ_blank] at hoc
      have hs32 : s[i]? = some 32 := by simpa using hoc
      have hlt := (List.getElem?_eq_some_iff.1 hs32).1
      have hsplit : s = s.take i ++ 32 :: s.drop (i + 1) := by
        have e1 := List.getElem_cons_drop hlt
        rw [(List.getElem?_eq_some_iff.1 hs32).2] at e1
        rw [e1, List.take_append_drop]
      have hc : ∀ c ∈ s.take i, c ≠ 32 := by
        intro c hcm e
        subst e
        obtain ⟨j, hj⟩ := List.getElem?_of_mem hcm
        have hj2 := (List.getElem?_eq_some_iff.1 hj).1
        rw [List.length_take] at hj2
        rw [List.getElem?_take] at hj
        split at hj
        · have := hno j (by omega)
          rw [occ_blank, hj] at this
          simp at this
        · cases hj
      conv => rhs; rw [hsplit]
      rw [cutL_hit _ _ hc]
      have e1 : ((i : Int)).toNat + 0 = i := by omega
      have e2 : ((i : Int)).toNat + [(32 : UInt8)].length = i + 1 := by simp
      have e3 : i + [(32 : UInt8)].length = i + 1 := rfl
      rw [e1, e2, e3, ih (s.drop (i + 1)) (by rw [List.length_drop]; omega)]

def isDig (c : UInt8) : Bool := decide (48 ≤ c.toNat) && decide (c.toNat ≤ 57)
def valD : Nat → List UInt8 → Nat
  | a, [] => a
  | a, c :: l => valD (10 * a + (c.toNat - 48)) l
def magL (l : List UInt8) : List UInt8 := if l.head? = some 45 then l.tail else l
theorem valD_snoc : ∀ (l : List UInt8) (a : Nat) (c : UInt8), valD a (l ++ [c]) = 10 * valD a l + (c.toNat - 48)
  | [], a, c => rfl
  | d :: l, a, c => by rw [List.cons_append]; unfold valD; exact valD_snoc l _ c
theorem dig_toNat (u : Nat) (h : u < 10) : (UInt8.ofNat (48 + u)).toNat = 48 + u := by
  rw [UInt8.toNat_ofNat']
  omega
theorem decDigits_said : ∀ (u : Nat), decDigits u ≠ [] ∧ (decDigits u).all isDig = true ∧ valD 0 (decDigits u) = u ∧ ((decDigits u).head? = some 48 → u = 0) := by
  intro u
  induction u using Nat.strongRecOn with
  | _ u ih =>
    by_cases h : u < 10
    · rw [decDigits, dif_pos h]
      have e := dig_toNat u h
      refine ⟨by simp, ?_, ?_, ?_⟩
      · simp only [List.all_cons, List.all_nil, Bool.and_true, isDig, e]
        simp
        omega
      · show 10 * 0 + ((UInt8.ofNat (48 + u)).toNat - 48) = u
        rw [e]
        omega
      · intro h2
        simp only [List.head?_cons, Option.some.injEq] at h2
        have e3 : (UInt8.ofNat (48 + u)).toNat = 48 := congrArg UInt8.toNat h2
        omega
    · rw [decDigits, dif_neg h]
      obtain ⟨h1, h2, h3, h4⟩ := ih (u / 10) (by omega)
      have e := dig_toNat (u % 10) (by omega)
      refine ⟨by simp, ?_, ?_, ?_⟩
      · rw [List.all_append, h2, Bool.true_and]
        simp only [List.all_cons, List.all_nil, Bool.and_true, isDig, e]
        simp
        omega
      · rw [valD_snoc, h3, e]
        omega
      · intro h5
        have : (decDigits (u / 10)).head? = some 48 := by
          cases hd : decDigits (u / 10) with
          | nil => exact (h1 hd).elim
          | cons a l => rw [hd] at h5; simpa using h5
        have := h4 this
        omega
theorem dig_not {c : UInt8} (h : isDig c = true) : c ≠ 45 ∧ c ≠ 43 ∧ c ≠ 32 := by
  unfold isDig at h
  simp only [Bool.and_eq_true, decide_eq_true_eq] at h
  refine ⟨?_, ?_, ?_⟩ <;> (intro e; subst e; revert h; decide)
theorem digs_head {l : List UInt8} (h : l.all isDig = true) : ¬ l.head? = some 45 := by
  cases l with
  | nil => simp
  | cons c l =>
    simp only [List.all_cons, Bool.and_eq_true] at h
    intro e
    simp only [List.head?_cons, Option.some.injEq] at e
    exact (dig_not h.1).1 e
theorem magL_itoa (n : Int) : magL (itoa n) = decDigits n.natAbs ∧ ((itoa n).head? = some 45 ↔ n < 0) := by
  obtain ⟨h1, h2, h3, h4⟩ := decDigits_said n.natAbs
  unfold magL itoa
  by_cases hn : n < 0
  · rw [if_pos hn]
    simp [hn]
  · rw [if_neg hn]
    have e : n.toNat = n.natAbs := by omega
    rw [e, if_neg (digs_head h2)]
    exact ⟨rfl, ⟨fun h => (digs_head h2 h).elim, fun h => (hn h).elim⟩⟩
theorem trim_mag (l : List UInt8) : trimPrefix l [45] = magL l := by
  unfold trimPrefix magL hasPrefix
  cases l with
  | nil => rfl
  | cons c l =>
    by_cases h : c = 45
    · subst h; simp
    · have h' : ¬ (45 : UInt8) = c := fun e => h e.symm
      simp [h, h']
/-! What is written is read. -/
theorem decFrom_val : ∀ (l : List UInt8) (a : Nat), l.all isDig = true → decFrom a l = some (valD a l)
  | [], a, _ => rfl
  | c :: l, a, h => by
    simp only [List.all_cons, Bool.and_eq_true] at h
    have hc := h.1
    unfold isDig at hc
    simp only [Bool.and_eq_true, decide_eq_true_eq] at hc
    unfold decFrom digitVal valD
    rw [if_pos hc]
    dsimp only
    rw [decFrom_val l _ h.2, Nat.mul_comm]
theorem decNat_digits (u : Nat) : decNat (decDigits u) = some u := by
  obtain ⟨h1, h2, h3, -⟩ := decDigits_said u
  unfold decNat
  rw [if_neg (by simpa using h1), decFrom_val _ _ h2, h3]
theorem atoi_itoa (n : Int) : atoi (itoa n) = some n := by
  unfold itoa
  by_cases hn : n < 0
  · rw [if_pos hn]
    unfold atoi
    dsimp only
    rw [if_pos (by decide), decNat_digits]
    simp
    omega
  · rw [if_neg hn]
    obtain ⟨h1, h2, h3, -⟩ := decDigits_said n.toNat
    have hd := decNat_digits n.toNat
    cases hl : decDigits n.toNat with
    | nil => exact (h1 hl).elim
    | cons c l =>
      rw [hl] at h2 hd
      simp only [List.all_cons, Bool.and_eq_true] at h2
      obtain ⟨k1, k2, -⟩ := dig_not h2.1
      unfold atoi
      dsimp only
      rw [if_neg (by simpa using k1), if_neg (by simpa using k2), hd]
      simp
      omega
theorem decDigits_len : ∀ (k u : Nat), u < 10 ^ (k + 1) → (decDigits u).length ≤ k + 1
  | 0, u, h => by rw [decDigits, dif_pos (by omega)]; simp
  | k + 1, u, h => by
    by_cases h0 : u < 10
    · rw [decDigits, dif_pos h0]; simp
    · rw [decDigits, dif_neg h0, List.length_append]
      have := decDigits_len k (u / 10) (by rw [Nat.pow_succ] at h; omega)
      simp only [List.length_cons, List.length_nil]
      omega
theorem itoa_len (k : Nat) (n : Int) (h : n.natAbs < 10 ^ (k + 1)) : (itoa n).length ≤ k + 2 ∧ (magL (itoa n)).length ≤ k + 1 := by
  have h1 := decDigits_len k n.natAbs h
  refine ⟨?_, by rw [(magL_itoa n).1]; exact h1⟩
  unfold itoa
  split
  · simp only [List.length_cons]; omega
  · rw [show n.toNat = n.natAbs by omega]; omega
theorem itoa_signs (n : Int) : itoa n ≠ [] ∧ ∀ c ∈ itoa n, c ≠ 32 ∧ c ≠ 10 := by
  have dg : ∀ u, ∀ c ∈ decDigits u, c ≠ 32 ∧ c ≠ 10 := fun u c hc => by
    have := List.all_eq_true.1 (decDigits_said u).2.1 c hc
    refine ⟨(dig_not this).2.2, fun e => ?_⟩
    subst e
    revert this
    decide
  unfold itoa
  split
  · refine ⟨by simp, fun c hc => ?_⟩
    rcases List.mem_cons.1 hc with rfl | hc
    · decide
    · exact dg _ c hc
  · exact ⟨(decDigits_said _).1, dg _⟩
theorem join_two (x y : List UInt8) (r : List (List UInt8)) (sep : List UInt8) : join (x :: y :: r) sep = x ++ (sep ++ join (y :: r) sep) := by
  rw [join_cons, join_cons]
  simp [joinTail]
theorem cut_join : ∀ (ws : List (List UInt8)), ws ≠ [] → (∀ x ∈ ws, ∀ c ∈ x, c ≠ 32) → cutL (join ws [32]) = ws
  | [], h, _ => (h rfl).elim
  | [x], _, h => by rw [join_one]; exact cutL_none x (h x (by simp))
  | x :: y :: r, _, h => by
    rw [join_two]
    show cutL (x ++ 32 :: join (y :: r) [32]) = _
    rw [cutL_hit _ _ (h x (by simp)), cut_join (y :: r) (by simp) fun z hz => h z (by simp [hz])]
theorem join_mem : ∀ (ws : List (List UInt8)) (sep : List UInt8), ∀ c ∈ join ws sep, c ∈ sep ∨ ∃ x ∈ ws, c ∈ x
  | [], sep, c, h => by rw [join_nil] at h; cases h
  | [x], sep, c, h => by rw [join_one] at h; exact .inr ⟨x, by simp, h⟩
  | x :: y :: r, sep, c, h => by
    rw [join_two] at h
    rcases List.mem_append.1 h with h | h
    · exact .inr ⟨x, by simp, h⟩
    rcases List.mem_append.1 h with h | h
    · exact .inl h
    · rcases join_mem (y :: r) sep c h with h | ⟨z, hz, hc⟩
      · exact .inl h
      · exact .inr ⟨z, by simp [hz], hc⟩
theorem join_len (K : Nat) : ∀ (ws : List (List UInt8)), (∀ x ∈ ws, x.length ≤ K) → (join ws [32]).length ≤ (K + 1) * ws.length
  | [], _ => by rw [join_nil]; simp
  | [x], h => by rw [join_one]; have := h x (by simp); simp; omega
  | x :: y :: r, h => by
    rw [join_two]
    have h1 := h x (by simp)
    have h2 := join_len K (y :: r) fun z hz => h z (by simp [hz])
    simp only [List.length_append, List.length_cons, List.length_nil] at h2 ⊢
    rw [Nat.mul_add] at h2 ⊢
    rw [Nat.mul_add]
    omega
end Go.Proofs
