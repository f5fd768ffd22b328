import Derived.Test.YtpmliaildjomeaaGreatDoorMg22
set_option linter.unusedSimpArgs false
set_option linter.unusedVariables false
namespace Go.Proofs
open Go.RowKit
set_option linter.unusedVariables false
/-! Issue: a certificate. -/
theorem dot_small1 {ps : List Pa} {es : List En} {k ag : Int} {m : List Int} {d : Int} {p : Prf} (h : SvOf ps es (worthL ps k ag) m d p) (hk : ¬ k = 0) : (dotL (worthL ps k ag) m).natAbs ≤ 1228800000000000 := by
  have h1 := dot_le (worthL ps k ag) m 1 (fun x hx => by
    unfold worthL at hx
    obtain ⟨y, -, rfl⟩ := List.mem_map.1 hx
    rw [if_neg hk]
    split <;> decide) h.nn
  rw [h.sum] at h1
  have := h.dK
  omega
theorem ediv_le {S g : Int} (h : 0 < g) (hd : g ∣ S) : (S / g).natAbs ≤ S.natAbs := by
  obtain ⟨q, rfl⟩ := hd
  rw [Int.mul_ediv_cancel_left _ (by omega), Int.natAbs_mul]
  exact Nat.le_mul_of_pos_left _ (by omega)
def issLev (k n b : Int) : Int := (if k = 1 then n / lowG n b * 1000 else n / lowG n b) / (b / lowG n b)
theorem leGot_cases (ps : List Pa) (es : List En) (k ag : Int) :
    (∃ E : Int, E ≠ 0 ∧ (∀ n0 e w', LeGot ps es k ag n0 e w' → e = .returned (.tuple #[leNone, .int .i64 E])) ∧ ((bothE ps es k ag ≠ 0 ∧ E = bothE ps es k ag) ∨ (bothE ps es k ag = 0 ∧ solvedL ps.length (exs es) (worthL ps k ag) = none ∧ E = 12))) ∨
    (bothE ps es k ag = 0 ∧ ∃ m d p, solvedL ps.length (exs es) (worthL ps k ag) = some (m, d, p)) := by
  by_cases h : bothE ps es k ag = 0
  · cases hv : solvedL ps.length (exs es) (worthL ps k ag) with
    | none =>
      refine .inl ⟨12, by decide, fun n0 e w' hg => ?_, .inr ⟨h, rfl, rfl⟩⟩
      unfold LeGot at hg
      rw [if_neg (by simp [h]), hv] at hg
      exact hg
    | some x => exact .inr ⟨h, x.1, x.2.1, x.2.2, rfl⟩
  · refine .inl ⟨_, h, fun n0 e w' hg => ?_, .inl ⟨h, rfl⟩⟩
    unfold LeGot at hg
    rwa [if_pos h] at hg
def ceNone : Value := .agg #[.string (ByteArray.mk #[]), .int .i64 0, .int .i64 0, .int .i64 0, .int .i64 0, .int .i64 0, .slice none 0 0]
def IssGot (ps : List Pa) (es : List En) (k ag : Int) (s : ByteArray) (n0 : Nat) (e : Ending) (w' : World) : Prop :=
  if nameB s.data.toList = false then e = .returned (.tuple #[ceNone, .int .i64 4])
  else if bothE ps es k ag ≠ 0 then e = .returned (.tuple #[ceNone, .int .i64 (bothE ps es k ag)])
  else match solvedL ps.length (exs es) (worthL ps k ag) with
    | none => e = .returned (.tuple #[ceNone, .int .i64 12])
    | some (m, d, p) => ∃ A2 c2, e = .returned (.tuple #[.agg #[.string s, .int .i64 k, .int .i64 ag, .int .i64 (issLev k (dotL (worthL ps k ag) m) d), .int .i64 p.den, .int .i64 p.lev, .slice A2 es.length c2], .int .i64 0]) ∧
        w'.ownsRow n0 3 1 (.slice A2 es.length c2) es.length (p.W.map (Value.int .i64))
set_option maxRecDepth 100000 in
set_option maxHeartbeats 4000000 in
theorem issue_any (pA eA : Option Addr) (pc ec pn en : Nat) (ps : List Pa) (es : List En) (k ag : Int) (s : ByteArray) (w : World) (hB : BookAt w pA pc ps eA ec es) (hF : FewB ps es) (hpn : ps.length = pn) (hen : es.length = en) (hs : s.size ≤ 1000) :
    Calls Tryz.prog 8 #[.agg #[.slice pA pn pc, .slice eA en ec], .agg #[.int .i64 k, .int .i64 ag], .string s] w fun e w' => IssGot ps es k ag s w.heap.size e w' ∧ Below w.heap.size w w' := by
  have hLe := Lib.hid fun W (hb : Below w.heap.size w W) => least_any pA eA pc ec pn en ps es k ag W (hB.below hb) hF hpn hen
  have hNm := Lib.hid fun W => isName_any s W (by omega)
  have hs7 : ∀ x, (sizeOf 64).run Tryz.prog x = .ok 7 x := fun x => by kernel_rfl
  have ha7 : ∀ x, (isAgg 64).run Tryz.prog x = .ok true x := fun x => by kernel_rfl
  have hsC : ∀ x, (sizeOf 37).run Tryz.prog x = .ok 7 x := fun x => by kernel_rfl
  have haC : ∀ x, (isAgg 37).run Tryz.prog x = .ok true x := fun x => by kernel_rfl
  obtain ⟨NB, hNB⟩ : ∃ b, nameB s.data.toList = b := ⟨_, rfl⟩
  rw [hNB] at hNm
  have hgot := Lib.hid (show ∀ n0 e w', IssGot ps es k ag s n0 e w' = if NB = false then e = .returned (.tuple #[ceNone, .int .i64 4])
  else if bothE ps es k ag ≠ 0 then e = .returned (.tuple #[ceNone, .int .i64 (bothE ps es k ag)])
  else match solvedL pn (exs es) (worthL ps k ag) with
    | none => e = .returned (.tuple #[ceNone, .int .i64 12])
    | some (m, d, p) => ∃ A2 c2, e = .returned (.tuple #[.agg #[.string s, .int .i64 k, .int .i64 ag, .int .i64 (issLev k (dotL (worthL ps k ag) m) d), .int .i64 p.den, .int .i64 p.lev, .slice A2 en c2], .int .i64 0]) ∧
        w'.ownsRow n0 3 1 (.slice A2 en c2) en (p.W.map (Value.int .i64)) from fun n0 e w' => by
          unfold IssGot
          rw [hNB, hpn, hen])
  clear hNB
  cases NB with
  | false =>
    have hfin := Lib.hid (show ∀ e w', e = .returned (.tuple #[ceNone, .int .i64 4]) → IssGot ps es k ag s w.heap.size e w' from fun e w' h => by
      rw [hgot.out, if_pos rfl]
      exact h)
    clear hB hF hpn hen hLe hgot
    go_enter Tryz.func8, Tryz.ntmps8
    go_wp2_with (first
      | (go_at_call 29; refine (hNm.out _).mono ?_; rintro e w2 ⟨rfl, hb2⟩; (have M0 := bk_keep hb2 (by (repeat (first | assumption | (refine bk_new _ _ ?_; (simp; done)) | refine bk_drew ?_ | refine bk_alloc ?_ _ | refine bk_set ?_ (by simp <;> omega) _)) : (((w.alloc (.cells #[.slice pA pn pc, .slice eA en ec] 25 (0, 0))).alloc (.cells #[.int .i64 k, .int .i64 ag] 27 (0, 0))).alloc (.cells #[(.string (ByteArray.mk #[])), .int .i64 0, .int .i64 0, .int .i64 0, .int .i64 0, .int .i64 0, .slice none 0 0] 37 (0, 0))).heap[w.heap.size]? = some (.cells #[.slice pA pn pc, .slice eA en ec] 25 (0, 0))); have M1 := bk_keep hb2 (by (repeat (first | assumption | (refine bk_new _ _ ?_; (simp; done)) | refine bk_drew ?_ | refine bk_alloc ?_ _ | refine bk_set ?_ (by simp <;> omega) _)) : (((w.alloc (.cells #[.slice pA pn pc, .slice eA en ec] 25 (0, 0))).alloc (.cells #[.int .i64 k, .int .i64 ag] 27 (0, 0))).alloc (.cells #[(.string (ByteArray.mk #[])), .int .i64 0, .int .i64 0, .int .i64 0, .int .i64 0, .int .i64 0, .slice none 0 0] 37 (0, 0))).heap[w.heap.size + 1]? = some (.cells #[.int .i64 k, .int .i64 ag] 27 (0, 0))); have M2 := bk_keep hb2 (by (repeat (first | assumption | (refine bk_new _ _ ?_; (simp; done)) | refine bk_drew ?_ | refine bk_alloc ?_ _ | refine bk_set ?_ (by simp <;> omega) _)) : (((w.alloc (.cells #[.slice pA pn pc, .slice eA en ec] 25 (0, 0))).alloc (.cells #[.int .i64 k, .int .i64 ag] 27 (0, 0))).alloc (.cells #[(.string (ByteArray.mk #[])), .int .i64 0, .int .i64 0, .int .i64 0, .int .i64 0, .int .i64 0, .slice none 0 0] 37 (0, 0))).heap[w.heap.size + 1 + 1]? = some (.cells #[(.string (ByteArray.mk #[])), .int .i64 0, .int .i64 0, .int .i64 0, .int .i64 0, .int .i64 0, .slice none 0 0] 37 (0, 0))); have hbw2 : Below w.heap.size w w2 := via (by go_grown) hb2; have hsz2 : w.heap.size + 3 ≤ w2.heap.size := (by have := bk_size M2; omega); have D0 := bk2 M0; have D1 := bk2 M1; clear hb2))
      | (refine wpList_store_block (by with_reducible rfl) (.tmp 6) (.tmp 14) 37 (by with_reducible rfl) (w.heap.size + 1 + 1) [(.string (ByteArray.mk #[])), .int .i64 0, .int .i64 0, .int .i64 0, .int .i64 0, .int .i64 0, .slice none 0 0] [(.string (ByteArray.mk #[])), .int .i64 0, .int .i64 0, .int .i64 0, .int .i64 0, .int .i64 0, .slice none 0 0] 37 ?sp ?sq (hsC _) ?sb rfl (by simp [Value.oneCell']) ?_))
    case sp => rfl
    case sq => rfl
    case sb => exact M2
    intro w9 hblk9 hg9 hsz9
    have hb9 : Below w.heap.size w w9 := grown_below hbw2 hg9 fun b e => by have := Option.some.inj e; omega
    go_wp2
    refine bodyPost_ret (v := .tuple #[ceNone, .int .i64 (4)]) ?_ rfl ⟨hfin.out _ _ rfl, hb9⟩
    exact results_cell2t (p := 6) (u := 7) (ad := ⟨w.heap.size + 1 + 1, 0, none⟩) (v := ceNone) rfl (by rfl) (run_loadBlock (T := 37) (cs := [(.string (ByteArray.mk #[])), .int .i64 0, .int .i64 0, .int .i64 0, .int .i64 0, .int .i64 0, .slice none 0 0]) (haC _) (hsC _) hblk9)
  | true =>
    simp only [Bool.true_eq_false, if_false] at hgot
    clear hB
    rcases leGot_cases ps es k ag with ⟨E, hE0, hE, hI⟩ | ⟨hE0, m, d, p, hv⟩
    · have hfin := Lib.hid (show ∀ e w', e = .returned (.tuple #[ceNone, .int .i64 E]) → IssGot ps es k ag s w.heap.size e w' from fun e w' h => by
        rw [hgot.out]
        rcases hI with ⟨h1, h2⟩ | ⟨h1, h2, h3⟩
        · rw [if_pos h1, ← h2]; exact h
        · rw [if_neg (by simp [h1]), ← hpn, h2]; rw [h3] at h; exact h)
      have hEb : (E != 0) = true := by simpa using hE0
      have hE := Lib.hid hE
      clear hF hpn hen hgot hI hE0
      go_enter Tryz.func8, Tryz.ntmps8
      go_wp2_with (first
        | (go_at_call 29; refine (hNm.out _).mono ?_; rintro e w2 ⟨rfl, hb2⟩; (have M0 := bk_keep hb2 (by (repeat (first | assumption | (refine bk_new _ _ ?_; (simp; done)) | refine bk_drew ?_ | refine bk_alloc ?_ _ | refine bk_set ?_ (by simp <;> omega) _)) : (((w.alloc (.cells #[.slice pA pn pc, .slice eA en ec] 25 (0, 0))).alloc (.cells #[.int .i64 k, .int .i64 ag] 27 (0, 0))).alloc (.cells #[(.string (ByteArray.mk #[])), .int .i64 0, .int .i64 0, .int .i64 0, .int .i64 0, .int .i64 0, .slice none 0 0] 37 (0, 0))).heap[w.heap.size]? = some (.cells #[.slice pA pn pc, .slice eA en ec] 25 (0, 0))); have M1 := bk_keep hb2 (by (repeat (first | assumption | (refine bk_new _ _ ?_; (simp; done)) | refine bk_drew ?_ | refine bk_alloc ?_ _ | refine bk_set ?_ (by simp <;> omega) _)) : (((w.alloc (.cells #[.slice pA pn pc, .slice eA en ec] 25 (0, 0))).alloc (.cells #[.int .i64 k, .int .i64 ag] 27 (0, 0))).alloc (.cells #[(.string (ByteArray.mk #[])), .int .i64 0, .int .i64 0, .int .i64 0, .int .i64 0, .int .i64 0, .slice none 0 0] 37 (0, 0))).heap[w.heap.size + 1]? = some (.cells #[.int .i64 k, .int .i64 ag] 27 (0, 0))); have M2 := bk_keep hb2 (by (repeat (first | assumption | (refine bk_new _ _ ?_; (simp; done)) | refine bk_drew ?_ | refine bk_alloc ?_ _ | refine bk_set ?_ (by simp <;> omega) _)) : (((w.alloc (.cells #[.slice pA pn pc, .slice eA en ec] 25 (0, 0))).alloc (.cells #[.int .i64 k, .int .i64 ag] 27 (0, 0))).alloc (.cells #[(.string (ByteArray.mk #[])), .int .i64 0, .int .i64 0, .int .i64 0, .int .i64 0, .int .i64 0, .slice none 0 0] 37 (0, 0))).heap[w.heap.size + 1 + 1]? = some (.cells #[(.string (ByteArray.mk #[])), .int .i64 0, .int .i64 0, .int .i64 0, .int .i64 0, .int .i64 0, .slice none 0 0] 37 (0, 0))); have hbw2 : Below w.heap.size w w2 := via (by go_grown) hb2; have hsz2 : w.heap.size + 3 ≤ w2.heap.size := (by have := bk_size M2; omega); have D0 := bk2 M0; have D1 := bk2 M1; clear hb2))
        | (go_at_call 23; refine (hLe.out _ hbw2).mono ?_; rintro e w4 ⟨hg, hb4⟩; obtain rfl := hE.out _ _ _ hg; (have N2 := bk_keep hb4 M2); (have hbw4 : Below w.heap.size w w4 := via hbw2 hb4); (have hs4 := hb4.size); clear hb4 hg)
        | (refine wpList_store_block (by with_reducible rfl) (.tmp 8) (.tmp 19) 64 (by with_reducible rfl) w4.heap.size [.int .i64 0, .int .i64 0, .int .i64 0, .slice none 0 0, .int .i64 0, .int .i64 0, .slice none 0 0] [.int .i64 0, .int .i64 0, .int .i64 0, .slice none 0 0, .int .i64 0, .int .i64 0, .slice none 0 0] 64 rfl rfl (hs7 _) (bk_new _ _ rfl) rfl (by decide) ?_; intro w5 hblk5 hg5 hsz5; (have P2 := bk_grown hg5 (bk_keep (new_below _ _) N2) (by have := bk_size N2; simp; omega)); (have hbw5 : Below w.heap.size w w5 := grown_below (via hbw4 (new_below _ _)) hg5 fun b e => (by have := Option.some.inj e; have := hbw4.size; omega)); clear hg5)
        | (refine wpList_store_block (by with_reducible rfl) (.tmp 6) (.tmp 23) 37 (by with_reducible rfl) (w.heap.size + 1 + 1) [(.string (ByteArray.mk #[])), .int .i64 0, .int .i64 0, .int .i64 0, .int .i64 0, .int .i64 0, .slice none 0 0] [(.string (ByteArray.mk #[])), .int .i64 0, .int .i64 0, .int .i64 0, .int .i64 0, .int .i64 0, .slice none 0 0] 37 ?sp ?sq (hsC _) ?sb rfl (by simp [Value.oneCell']) ?_))
      case sp => rfl
      case sq => rfl
      case sb => exact P2
      intro w9 hblk9 hg9 hsz9
      have hb9 : Below w.heap.size w w9 := grown_below hbw5 hg9 fun b e => by have := Option.some.inj e; omega
      go_wp2
      refine bodyPost_ret (v := .tuple #[ceNone, .int .i64 (E)]) ?_ rfl ⟨hfin.out _ _ rfl, hb9⟩
      exact results_cell2t (p := 6) (u := 7) (ad := ⟨w.heap.size + 1 + 1, 0, none⟩) (v := ceNone) rfl (by rfl) (run_loadBlock (T := 37) (cs := [(.string (ByteArray.mk #[])), .int .i64 0, .int .i64 0, .int .i64 0, .int .i64 0, .int .i64 0, .slice none 0 0]) (haC _) (hsC _) hblk9)
    · have hR := (bothE_zero.1 hE0).1
      have hS := svOf hR hv
      have hN0 := hS.dot (hR.worths k ag)
      have hN1 : ¬ k = 0 → _ := fun h => dot_small1 hS h
      have hL := Lib.hid (show ∀ n0 e w', LeGot ps es k ag n0 e w' → ∃ A c A2 c2, e = .returned (.tuple #[.agg #[.int .i64 (dotL (worthL ps k ag) m / lowG (dotL (worthL ps k ag) m) d), .int .i64 (d / lowG (dotL (worthL ps k ag) m) d), .int .i64 d, .slice A pn c, .int .i64 p.den, .int .i64 p.lev, .slice A2 en c2], .int .i64 0]) ∧ w'.ownsRow n0 3 1 (.slice A2 en c2) en (p.W.map (Value.int .i64)) from fun n0 e w' h => by
        unfold LeGot at h
        rw [if_neg (by simp [hE0]), hv, hpn, hen] at h
        obtain ⟨A, c, A2, c2, h1, -, h3⟩ := h
        exact ⟨A, c, A2, c2, h1, h3⟩)
      have hfin := Lib.hid (show ∀ e w', (∃ A2 c2, e = .returned (.tuple #[.agg #[.string s, .int .i64 k, .int .i64 ag, .int .i64 (issLev k (dotL (worthL ps k ag) m) d), .int .i64 p.den, .int .i64 p.lev, .slice A2 en c2], .int .i64 0]) ∧
        w'.ownsRow w.heap.size 3 1 (.slice A2 en c2) en (p.W.map (Value.int .i64))) → IssGot ps es k ag s w.heap.size e w' from fun e w' h => by
        rw [hgot.out, if_neg (by simp [hE0]), ← hpn, hv]
        exact h)
      obtain ⟨S, eS⟩ : ∃ S, dotL (worthL ps k ag) m = S := ⟨_, rfl⟩
      rw [eS] at hN0 hN1 hL hfin
      have hd0 := hS.d0
      obtain ⟨g0, g1, g2⟩ := lowG_of S d hd0
      have hD0 : 0 < d / lowG S d := Int.ediv_pos_of_pos_of_dvd hd0 (by omega) g2
      have hS1 := ediv_le g0 g1
      unfold issLev at hfin
      obtain ⟨Nn, eN1⟩ : ∃ n, S / lowG S d = n := ⟨_, rfl⟩
      obtain ⟨Dn, eD1⟩ : ∃ n, d / lowG S d = n := ⟨_, rfl⟩
      rw [eN1] at hS1 hL hfin
      rw [eD1] at hD0 hL hfin
      obtain ⟨V, eV⟩ : ∃ v, (if k = 1 then Nn * 1000 else Nn) = v := ⟨_, rfl⟩
      rw [eV] at hfin
      have hVb : V.natAbs ≤ 9000000000000000000 := by
        rw [← eV]
        by_cases h : k = 1
        · have := hN1 (by omega)
          rw [if_pos h]
          omega
        · rw [if_neg h]; omega
      have hdn := Lib.hid fun W => down_any V Dn W hD0 hVb
      obtain ⟨R, eR⟩ : ∃ r, V / Dn = r := ⟨_, rfl⟩
      rw [eR] at hdn hfin
      clear hF hpn hen hgot hE0 hv hR hS hN0 hN1 eS g0 g1 g2 hd0 hD0 hS1 eN1 eD1 eR
      by_cases hk : k = 1
      · have hkb : (k == 1) = true := by simpa using hk
        rw [if_pos hk] at eV
        clear hk
        have hw : IntKind.i64.wrap (Nn * 1000) = V := by rw [eV]; exact IntWalk.i64_in _ (by omega)
        clear hVb eV
        go_enter Tryz.func8, Tryz.ntmps8
        go_wp2_with (first
          | (go_at_call 29; refine (hNm.out _).mono ?_; rintro e w2 ⟨rfl, hb2⟩; (have M0 := bk_keep hb2 (by (repeat (first | assumption | (refine bk_new _ _ ?_; (simp; done)) | refine bk_drew ?_ | refine bk_alloc ?_ _ | refine bk_set ?_ (by simp <;> omega) _)) : (((w.alloc (.cells #[.slice pA pn pc, .slice eA en ec] 25 (0, 0))).alloc (.cells #[.int .i64 k, .int .i64 ag] 27 (0, 0))).alloc (.cells #[(.string (ByteArray.mk #[])), .int .i64 0, .int .i64 0, .int .i64 0, .int .i64 0, .int .i64 0, .slice none 0 0] 37 (0, 0))).heap[w.heap.size]? = some (.cells #[.slice pA pn pc, .slice eA en ec] 25 (0, 0))); have M1 := bk_keep hb2 (by (repeat (first | assumption | (refine bk_new _ _ ?_; (simp; done)) | refine bk_drew ?_ | refine bk_alloc ?_ _ | refine bk_set ?_ (by simp <;> omega) _)) : (((w.alloc (.cells #[.slice pA pn pc, .slice eA en ec] 25 (0, 0))).alloc (.cells #[.int .i64 k, .int .i64 ag] 27 (0, 0))).alloc (.cells #[(.string (ByteArray.mk #[])), .int .i64 0, .int .i64 0, .int .i64 0, .int .i64 0, .int .i64 0, .slice none 0 0] 37 (0, 0))).heap[w.heap.size + 1]? = some (.cells #[.int .i64 k, .int .i64 ag] 27 (0, 0))); have M2 := bk_keep hb2 (by (repeat (first | assumption | (refine bk_new _ _ ?_; (simp; done)) | refine bk_drew ?_ | refine bk_alloc ?_ _ | refine bk_set ?_ (by simp <;> omega) _)) : (((w.alloc (.cells #[.slice pA pn pc, .slice eA en ec] 25 (0, 0))).alloc (.cells #[.int .i64 k, .int .i64 ag] 27 (0, 0))).alloc (.cells #[(.string (ByteArray.mk #[])), .int .i64 0, .int .i64 0, .int .i64 0, .int .i64 0, .int .i64 0, .slice none 0 0] 37 (0, 0))).heap[w.heap.size + 1 + 1]? = some (.cells #[(.string (ByteArray.mk #[])), .int .i64 0, .int .i64 0, .int .i64 0, .int .i64 0, .int .i64 0, .slice none 0 0] 37 (0, 0))); have hbw2 : Below w.heap.size w w2 := via (by go_grown) hb2; have hsz2 : w.heap.size + 3 ≤ w2.heap.size := (by have := bk_size M2; omega); have D0 := bk2 M0; have D1 := bk2 M1; clear hb2))
          | (go_at_call 23; refine (hLe.out _ hbw2).mono ?_; rintro e w4 ⟨hg, hb4⟩; obtain ⟨A, c, A2, c2, rfl, hO⟩ := hL.out _ _ _ hg; (have Nn' := bk_keep hb4 M1); (have N2 := bk_keep hb4 M2); (have hbw4 : Below w.heap.size w w4 := via hbw2 hb4); (have hs4 := hb4.size); (have hO := Lib.hid hO); clear hb4 hg)
          | (refine wpList_store_block (by with_reducible rfl) (.tmp 8) (.tmp 19) 64 (by with_reducible rfl) w4.heap.size [.int .i64 Nn, .int .i64 Dn, .int .i64 d, .slice A pn c, .int .i64 p.den, .int .i64 p.lev, .slice A2 en c2] [.int .i64 0, .int .i64 0, .int .i64 0, .slice none 0 0, .int .i64 0, .int .i64 0, .slice none 0 0] 64 rfl rfl (hs7 _) (bk_new _ _ rfl) rfl (by simp [Value.oneCell']) ?_; intro w5 hblk5 hg5 hsz5; (have P1 := bk_grown hg5 (bk_keep (new_below _ _) Nn') (by have := bk_size N2; simp; omega)); (have P2 := bk_grown hg5 (bk_keep (new_below _ _) N2) (by have := bk_size N2; simp; omega)); (have hO := Lib.hid (owns_kept (owns_below hO.out (new_below _ _)) fun r e => hg5.5 r (Nat.lt_of_lt_of_le (hO.out.lt _ e).2 (by simp)) (by have := (hO.out.lt _ e).2; simp; omega))); (have hbw5 : Below w.heap.size w w5 := grown_below (via hbw4 (new_below _ _)) hg5 fun b e => (by have := Option.some.inj e; have := hbw4.size; omega)); (have D5 := bk2 P1); (have D7 := bk7 hblk5); clear hg5 hsz5))
        refine region_in w 10 (by kernel_rfl) (by kernel_rfl) (by go_grown) ?_
        intro hgc hbx
        simp only [List.take_succ_cons, List.take_zero, List.drop_succ_cons, List.drop_zero]
        repeat (go_big_quiet_step ((go_at_call 30; with_reducible exact Grew.call_same (hdn.out _))))
        refine wpQuiet_nil ?_
        intro w6 hb_w6 hw_w6 hs_w6
        clear hgc hbx
        have Q2 := bk_keep hb_w6 P2
        have hO := owns_below hO.out hb_w6
        have l1 := fun r e => hO.lt r e
        refine wpList_store_block (by with_reducible rfl) (.tmp 6) (.tmp 42) 37 (by with_reducible rfl) (w.heap.size + 1 + 1) [.string s, .int .i64 k, .int .i64 ag, .int .i64 R, .int .i64 p.den, .int .i64 p.lev, .slice A2 en c2] [(.string (ByteArray.mk #[])), .int .i64 0, .int .i64 0, .int .i64 0, .int .i64 0, .int .i64 0, .slice none 0 0] 37 rfl rfl (hsC _) Q2 rfl (by simp [Value.oneCell']) ?_
        intro w9 hblk9 hg9 hsz9
        have hb9 : Below w.heap.size w w9 := grown_below hw_w6 hg9 fun b e => by have := Option.some.inj e; omega
        have hO := Lib.hid (owns_base (owns_kept hO fun r e => hg9.5 r (l1 r e).2 (by have := (l1 r e).1; simp; omega)) (show w.heap.size ≤ w2.heap.size by omega))
        clear l1 hg9
        go_wp2
        refine bodyPost_ret (v := .tuple #[.agg #[.string s, .int .i64 k, .int .i64 ag, .int .i64 R, .int .i64 p.den, .int .i64 p.lev, .slice A2 en c2], .int .i64 0]) ?_ rfl ⟨hfin.out _ _ ⟨A2, c2, rfl, hO.out⟩, hb9⟩
        exact results_cell2t (p := 6) (u := 7) (ad := ⟨w.heap.size + 1 + 1, 0, none⟩) (v := .agg #[.string s, .int .i64 k, .int .i64 ag, .int .i64 R, .int .i64 p.den, .int .i64 p.lev, .slice A2 en c2]) rfl (by rfl) (run_loadBlock (T := 37) (cs := [.string s, .int .i64 k, .int .i64 ag, .int .i64 R, .int .i64 p.den, .int .i64 p.lev, .slice A2 en c2]) (haC _) (hsC _) hblk9)
      · have hkb : (k == 1) = false := by simpa using hk
        rw [if_neg hk] at eV
        clear hk
        subst eV
        go_enter Tryz.func8, Tryz.ntmps8
        go_wp2_with (first
          | (go_at_call 29; refine (hNm.out _).mono ?_; rintro e w2 ⟨rfl, hb2⟩; (have M0 := bk_keep hb2 (by (repeat (first | assumption | (refine bk_new _ _ ?_; (simp; done)) | refine bk_drew ?_ | refine bk_alloc ?_ _ | refine bk_set ?_ (by simp <;> omega) _)) : (((w.alloc (.cells #[.slice pA pn pc, .slice eA en ec] 25 (0, 0))).alloc (.cells #[.int .i64 k, .int .i64 ag] 27 (0, 0))).alloc (.cells #[(.string (ByteArray.mk #[])), .int .i64 0, .int .i64 0, .int .i64 0, .int .i64 0, .int .i64 0, .slice none 0 0] 37 (0, 0))).heap[w.heap.size]? = some (.cells #[.slice pA pn pc, .slice eA en ec] 25 (0, 0))); have M1 := bk_keep hb2 (by (repeat (first | assumption | (refine bk_new _ _ ?_; (simp; done)) | refine bk_drew ?_ | refine bk_alloc ?_ _ | refine bk_set ?_ (by simp <;> omega) _)) : (((w.alloc (.cells #[.slice pA pn pc, .slice eA en ec] 25 (0, 0))).alloc (.cells #[.int .i64 k, .int .i64 ag] 27 (0, 0))).alloc (.cells #[(.string (ByteArray.mk #[])), .int .i64 0, .int .i64 0, .int .i64 0, .int .i64 0, .int .i64 0, .slice none 0 0] 37 (0, 0))).heap[w.heap.size + 1]? = some (.cells #[.int .i64 k, .int .i64 ag] 27 (0, 0))); have M2 := bk_keep hb2 (by (repeat (first | assumption | (refine bk_new _ _ ?_; (simp; done)) | refine bk_drew ?_ | refine bk_alloc ?_ _ | refine bk_set ?_ (by simp <;> omega) _)) : (((w.alloc (.cells #[.slice pA pn pc, .slice eA en ec] 25 (0, 0))).alloc (.cells #[.int .i64 k, .int .i64 ag] 27 (0, 0))).alloc (.cells #[(.string (ByteArray.mk #[])), .int .i64 0, .int .i64 0, .int .i64 0, .int .i64 0, .int .i64 0, .slice none 0 0] 37 (0, 0))).heap[w.heap.size + 1 + 1]? = some (.cells #[(.string (ByteArray.mk #[])), .int .i64 0, .int .i64 0, .int .i64 0, .int .i64 0, .int .i64 0, .slice none 0 0] 37 (0, 0))); have hbw2 : Below w.heap.size w w2 := via (by go_grown) hb2; have hsz2 : w.heap.size + 3 ≤ w2.heap.size := (by have := bk_size M2; omega); have D0 := bk2 M0; have D1 := bk2 M1; clear hb2))
          | (go_at_call 23; refine (hLe.out _ hbw2).mono ?_; rintro e w4 ⟨hg, hb4⟩; obtain ⟨A, c, A2, c2, rfl, hO⟩ := hL.out _ _ _ hg; (have Nn' := bk_keep hb4 M1); (have N2 := bk_keep hb4 M2); (have hbw4 : Below w.heap.size w w4 := via hbw2 hb4); (have hs4 := hb4.size); (have hO := Lib.hid hO); clear hb4 hg)
          | (refine wpList_store_block (by with_reducible rfl) (.tmp 8) (.tmp 19) 64 (by with_reducible rfl) w4.heap.size [.int .i64 Nn, .int .i64 Dn, .int .i64 d, .slice A pn c, .int .i64 p.den, .int .i64 p.lev, .slice A2 en c2] [.int .i64 0, .int .i64 0, .int .i64 0, .slice none 0 0, .int .i64 0, .int .i64 0, .slice none 0 0] 64 rfl rfl (hs7 _) (bk_new _ _ rfl) rfl (by simp [Value.oneCell']) ?_; intro w5 hblk5 hg5 hsz5; (have P1 := bk_grown hg5 (bk_keep (new_below _ _) Nn') (by have := bk_size N2; simp; omega)); (have P2 := bk_grown hg5 (bk_keep (new_below _ _) N2) (by have := bk_size N2; simp; omega)); (have hO := Lib.hid (owns_kept (owns_below hO.out (new_below _ _)) fun r e => hg5.5 r (Nat.lt_of_lt_of_le (hO.out.lt _ e).2 (by simp)) (by have := (hO.out.lt _ e).2; simp; omega))); (have hbw5 : Below w.heap.size w w5 := grown_below (via hbw4 (new_below _ _)) hg5 fun b e => (by have := Option.some.inj e; have := hbw4.size; omega)); (have D5 := bk2 P1); (have D7 := bk7 hblk5); clear hg5 hsz5))
        refine region_in w 10 (by kernel_rfl) (by kernel_rfl) (by go_grown) ?_
        intro hgc hbx
        simp only [List.take_succ_cons, List.take_zero, List.drop_succ_cons, List.drop_zero]
        repeat (go_big_quiet_step ((go_at_call 30; with_reducible exact Grew.call_same (hdn.out _))))
        refine wpQuiet_nil ?_
        intro w6 hb_w6 hw_w6 hs_w6
        clear hgc hbx
        have Q2 := bk_keep hb_w6 P2
        have hO := owns_below hO.out hb_w6
        have l1 := fun r e => hO.lt r e
        refine wpList_store_block (by with_reducible rfl) (.tmp 6) (.tmp 42) 37 (by with_reducible rfl) (w.heap.size + 1 + 1) [.string s, .int .i64 k, .int .i64 ag, .int .i64 R, .int .i64 p.den, .int .i64 p.lev, .slice A2 en c2] [(.string (ByteArray.mk #[])), .int .i64 0, .int .i64 0, .int .i64 0, .int .i64 0, .int .i64 0, .slice none 0 0] 37 rfl rfl (hsC _) Q2 rfl (by simp [Value.oneCell']) ?_
        intro w9 hblk9 hg9 hsz9
        have hb9 : Below w.heap.size w w9 := grown_below hw_w6 hg9 fun b e => by have := Option.some.inj e; omega
        have hO := Lib.hid (owns_base (owns_kept hO fun r e => hg9.5 r (l1 r e).2 (by have := (l1 r e).1; simp; omega)) (show w.heap.size ≤ w2.heap.size by omega))
        clear l1 hg9
        go_wp2
        refine bodyPost_ret (v := .tuple #[.agg #[.string s, .int .i64 k, .int .i64 ag, .int .i64 R, .int .i64 p.den, .int .i64 p.lev, .slice A2 en c2], .int .i64 0]) ?_ rfl ⟨hfin.out _ _ ⟨A2, c2, rfl, hO.out⟩, hb9⟩
        exact results_cell2t (p := 6) (u := 7) (ad := ⟨w.heap.size + 1 + 1, 0, none⟩) (v := .agg #[.string s, .int .i64 k, .int .i64 ag, .int .i64 R, .int .i64 p.den, .int .i64 p.lev, .slice A2 en c2]) rfl (by rfl) (run_loadBlock (T := 37) (cs := [.string s, .int .i64 k, .int .i64 ag, .int .i64 R, .int .i64 p.den, .int .i64 p.lev, .slice A2 en c2]) (haC _) (hsC _) hblk9)
end Go.Proofs

set_option linter.unusedSimpArgs false
set_option linter.unusedVariables false
namespace Go.Proofs
open Go.RowKit
set_option linter.unusedVariables false
/-! bound: what a proof shows. -/
def holdsAt (ws : List Int) (es : List En) (den lev : Int) (W : List Int) (i : Nat) : Prop := ¬ (ws.getD i 0 * den + putsL (exs es) W i < lev)
def boundGot (ws : List Int) (es : List En) (den lev : Int) (W : List Int) (e : Ending) : Prop :=
  ((∀ i, i < ws.length → holdsAt ws es den lev W i) ∧ e = .returned (.tuple #[.agg #[.int .i64 (lev - spentL (exs es) W), .int .i64 den], .bool true])) ∨
  ((∃ i, i < ws.length ∧ ¬ holdsAt ws es den lev W i) ∧ e = .returned (.tuple #[.agg #[.int .i64 0, .int .i64 0], .bool false]))
set_option maxRecDepth 100000 in
set_option maxHeartbeats 4000000 in
theorem bound_any (pA eA A : Option Addr) (pc ec pn en c : Nat) (ps : List Pa) (es : List En) (k ag den lev : Int) (W : List Int) (w : World) (hB : BookAt w pA pc ps eA ec es) (hF : FewB ps es) (hR : BookR ps es) (hpn : ps.length = pn) (hen : es.length = en)
    (hW : At 1 Zc w A W) (hl : W.length = es.length) (sW : Small 1000000000000 W) (hd : den.natAbs ≤ 1000000000000) (hv : lev.natAbs ≤ 1000000000000) :
    Calls Tryz.prog 52 #[.agg #[.slice pA pn pc, .slice eA en ec], .agg #[.int .i64 k, .int .i64 ag], .agg #[.int .i64 den, .int .i64 lev, .slice A en c]] w fun e w' => boundGot (worthL ps k ag) es den lev W e ∧ Below w.heap.size w w' := by
  have sW' : Small 10000000000000000 W := fun x hx => Nat.le_trans (sW x hx) (by decide)
  have hWo := Lib.hid fun W (hb : Below w.heap.size w W) => worths_any pA eA pc ec pn en ps k ag W (hB.P.below hb) hpn (by rw [← hpn]; exact hF.p)
  have hPu := Lib.hid fun x (hb : Below w.heap.size w x) i (hi : i < pn) => by
    have h := puts_any pA eA A pn pc ec c pn es W den lev i x (by rw [← hpn]; exact hR.right) (hB.E.below hb) (hW.below hb) hl hi sW'
    rw [hl, hen] at h
    exact h
  have hSp := Lib.hid fun x (hb : Below w.heap.size w x) => by
    have h := spent_any pA eA A pn pc ec c pn es W den lev x (by rw [← hpn]; exact hR.right) (hB.E.below hb) (hW.below hb) hl sW'
    rw [hl, hen] at h
    exact h
  have hs := spentL_bound (X := 20) (Y := 1000000000000) (exs es) W 8 hR.right.exs_mo sW
  have hs8 : (spentL (exs es) W).natAbs ≤ 8 * (1000000000000 * 20) := by
    rw [List.take_of_length_le (by rw [exs_len]; exact hR.right.n8), List.take_of_length_le (by rw [hl]; exact hR.right.n8)] at hs
    exact hs
  have hp8 : ∀ i, (putsL (exs es) W i).natAbs ≤ 8 * (1000000000000 * 20) := fun i => by
    have hs := putsL_bound (X := 20) (Y := 1000000000000) i (exs es) W 8 hR.right.exs_co sW
    rw [List.take_of_length_le (by rw [exs_len]; exact hR.right.n8), List.take_of_length_le (by rw [hl]; exact hR.right.n8)] at hs
    exact hs
  have hwk := hR.worths k ag
  have hp5 := hR.n5
  have hwl : (worthL ps k ag).length = pn := by simp [worthL, hpn]
  obtain ⟨ws, hws⟩ : ∃ ws, worthL ps k ag = ws := ⟨_, rfl⟩
  rw [hws] at hwk hwl hWo ⊢
  have hbd : ∀ i, (ws.getD i 0 * den).natAbs ≤ 400 * 1000000000000 := fun i => abs_mul (hwk.get i) hd
  have hnx0 : ∀ i, IntKind.i64.wrap (ws.getD i 0 * den) = ws.getD i 0 * den ∧ IntKind.i64.wrap (ws.getD i 0 * den + putsL (exs es) W i) = ws.getD i 0 * den + putsL (exs es) W i := fun i => by
    have h1 := hbd i
    have h2 := hp8 i
    exact ⟨IntWalk.i64_in _ (by omega), IntWalk.i64_in _ (by omega)⟩
  have hnx := Lib.hid hnx0
  obtain ⟨SP, eSP⟩ : ∃ s, spentL (exs es) W = s := ⟨_, rfl⟩
  rw [eSP] at hSp hs8
  have hwS : IntKind.i64.wrap (lev - SP) = lev - SP := IntWalk.i64_in _ (by omega)
  have hfin := Lib.hid (show ∀ e, ((∀ i, i < pn → holdsAt ws es den lev W i) ∧ e = .returned (.tuple #[.agg #[.int .i64 (lev - SP), .int .i64 den], .bool true])) ∨
  ((∃ i, i < pn ∧ ¬ holdsAt ws es den lev W i) ∧ e = .returned (.tuple #[.agg #[.int .i64 0, .int .i64 0], .bool false])) → boundGot ws es den lev W e from fun e h => by
    unfold boundGot
    rw [hwl, eSP]
    exact h)
  obtain ⟨D0, hD0⟩ : ∃ r, lev - SP = r := ⟨_, rfl⟩
  rw [hD0] at hfin hwS
  have hwl := Lib.hid hwl
  have hpn5 : pn ≤ 5 := by rw [← hpn]; exact hp5
  clear hB hF hR hpn hen hW hl sW hd hv sW' hs hs8 hp8 hwk hp5 hws hbd eSP hnx0
  go_enter Tryz.func52, Tryz.ntmps52
  go_wp2_with (go_at_call 55; refine (hWo.out _ (by go_grown)).mono ?_; rintro e w2 ⟨⟨A3, c3, rfl, hO⟩, hb2⟩; (have M0 := bk_keep hb2 (by (repeat (first | assumption | (refine bk_new _ _ ?_; (simp; done)) | refine bk_drew ?_ | refine bk_alloc ?_ _ | refine bk_set ?_ (by simp <;> omega) _)) : ((((w.alloc (.cells #[.slice pA pn pc, .slice eA en ec] 25 (0, 0))).alloc (.cells #[.int .i64 k, .int .i64 ag] 27 (0, 0))).alloc (.cells #[.int .i64 den, .int .i64 lev, .slice A en c] 35 (0, 0))).alloc (.cells #[.int .i64 0, .int .i64 0] 60 (0, 0))).heap[w.heap.size]? = some (.cells #[.slice pA pn pc, .slice eA en ec] 25 (0, 0)))); (have M1 := bk_keep hb2 (by (repeat (first | assumption | (refine bk_new _ _ ?_; (simp; done)) | refine bk_drew ?_ | refine bk_alloc ?_ _ | refine bk_set ?_ (by simp <;> omega) _)) : ((((w.alloc (.cells #[.slice pA pn pc, .slice eA en ec] 25 (0, 0))).alloc (.cells #[.int .i64 k, .int .i64 ag] 27 (0, 0))).alloc (.cells #[.int .i64 den, .int .i64 lev, .slice A en c] 35 (0, 0))).alloc (.cells #[.int .i64 0, .int .i64 0] 60 (0, 0))).heap[w.heap.size + 1]? = some (.cells #[.int .i64 k, .int .i64 ag] 27 (0, 0)))); (have M2 := bk_keep hb2 (by (repeat (first | assumption | (refine bk_new _ _ ?_; (simp; done)) | refine bk_drew ?_ | refine bk_alloc ?_ _ | refine bk_set ?_ (by simp <;> omega) _)) : ((((w.alloc (.cells #[.slice pA pn pc, .slice eA en ec] 25 (0, 0))).alloc (.cells #[.int .i64 k, .int .i64 ag] 27 (0, 0))).alloc (.cells #[.int .i64 den, .int .i64 lev, .slice A en c] 35 (0, 0))).alloc (.cells #[.int .i64 0, .int .i64 0] 60 (0, 0))).heap[w.heap.size + 1 + 1]? = some (.cells #[.int .i64 den, .int .i64 lev, .slice A en c] 35 (0, 0)))); (have M3 := bk_keep hb2 (by (repeat (first | assumption | (refine bk_new _ _ ?_; (simp; done)) | refine bk_drew ?_ | refine bk_alloc ?_ _ | refine bk_set ?_ (by simp <;> omega) _)) : ((((w.alloc (.cells #[.slice pA pn pc, .slice eA en ec] 25 (0, 0))).alloc (.cells #[.int .i64 k, .int .i64 ag] 27 (0, 0))).alloc (.cells #[.int .i64 den, .int .i64 lev, .slice A en c] 35 (0, 0))).alloc (.cells #[.int .i64 0, .int .i64 0] 60 (0, 0))).heap[w.heap.size + 1 + 1 + 1]? = some (.cells #[.int .i64 0, .int .i64 0] 60 (0, 0)))); (have hbw : Below w.heap.size w w2 := via (by go_grown) hb2); (have hA := Lib.hid (own_ints hO)); clear hb2 hO)
  go_loopw [14] (fun i wr => ∃ j : Nat, j ≤ pn ∧ i = .int .i64 j ∧ Hid (∀ i, i < j → holdsAt ws es den lev W i) ∧ Below w2.heap.size w2 wr) (fun i _ => pn - (intOf i).toNat)
  case atStart => exact ⟨0, Nat.zero_le _, rfl, Lib.hid fun i hi => absurd hi (Nat.not_lt_zero _), Below.refl _ _⟩
  case round =>
    obtain ⟨j, hj, rfl, hno, hb2⟩ := hrel
    have N0 := bk_keep hb2 M0
    have N2 := bk_keep hb2 M2
    have N3 := bk_keep hb2 M3
    have D0' := bk2 N0
    have D2 := bk3 N2
    have D3 := bk2 N3
    have hbw' : Below w.heap.size w wr := via hbw hb2
    by_cases hlt : j < pn
    · have hjI : (j : Int) < (pn : Int) := by omega
      obtain ⟨b3, o3, rfl, hs3, c4⟩ := zc_cell (hA.out.below hb2) (k := j) (by rw [hwl.out]; exact hlt)
      obtain ⟨hw1, hw2⟩ := hnx.out j
      have hPj := Lib.hid fun x hb => hPu.out x hb j hlt
      obtain ⟨q, hq⟩ : ∃ q, decide (ws.getD j 0 * den + putsL (exs es) W j < lev) = q := ⟨_, rfl⟩
      have hqi := Lib.hid (show q = false ↔ holdsAt ws es den lev W j by rw [← hq]; unfold holdsAt; simp)
      obtain ⟨pu, epu⟩ : ∃ x, putsL (exs es) W j = x := ⟨_, rfl⟩
      obtain ⟨wj, ewj⟩ : ∃ x, ws.getD j 0 = x := ⟨_, rfl⟩
      rw [ewj] at hw1 hw2 hq c4
      rw [epu] at hw2 hq hPj
      obtain ⟨pr, epr⟩ : ∃ x, wj * den = x := ⟨_, rfl⟩
      rw [epr] at hw1 hw2 hq
      obtain ⟨sm, esm⟩ : ∃ x, pr + pu = x := ⟨_, rfl⟩
      rw [esm] at hw2 hq
      have hw1' : IntKind.i64.wrap (wj * den) = pr := by rw [epr]; exact hw1
      have hw2' : IntKind.i64.wrap (pr + pu) = sm := by rw [esm]; exact hw2
      clear epu ewj epr esm hw1 hw2 hWo
      go_wp2
      refine region_all w (by kernel_rfl) (by kernel_rfl) (by go_grown) ?_
      intro hgc hbx
      repeat (go_big_quiet_step ((go_at_call 79; with_reducible exact Grew.call (hPj.out _ (hbx.out _)))))
      refine wpQuiet_nil ?_
      intro wb hb_wb hw_wb hs_wb
      clear hgc hbx
      have P3 := bk_keep hb_wb N3
      have D4 := bk2 P3
      cases q
      · go_wp2
        go_roundw
        case rel => exact ⟨j + 1, by omega, by go_num, Lib.hid fun i hi => by
          rcases Nat.lt_succ_iff_lt_or_eq.1 hi with h | rfl
          · exact hno.out i h
          · exact hqi.out.1 rfl, via hb2 hb_wb⟩
        case measure => first | (simp [intOf]; done) | (simp [intOf]; omega)
      · have hf := hfin.out _ (.inr ⟨⟨j, hlt, fun h => by have := hqi.out.2 h; cases this⟩, rfl⟩)
        have hf := Lib.hid hf
        go_wp2
        refine bodyPost_ret (v := .tuple #[.agg #[.int .i64 0, .int .i64 0], .bool false]) ?_ rfl ⟨hf.out, ?_⟩
        · exact results_cell2t (p := 6) (u := 7) (ad := ⟨w.heap.size + 1 + 1 + 1, 0, none⟩) (v := .agg #[.int .i64 0, .int .i64 0]) rfl (by rfl) (run_loadBlock (T := 60) (cs := [.int .i64 0, .int .i64 0]) (by kernel_rfl) (by kernel_rfl) (bk_here (bk_here P3 _ rfl) _ rfl))
        · go_grown
    · obtain rfl : j = pn := by omega
      have hf := Lib.hid (hfin.out _ (.inl ⟨hno.out, rfl⟩))
      have hSp := Lib.hid fun x hb => hSp.out x hb
      clear hno hWo hPu
      go_wp2
      refine region_in w 9 (by kernel_rfl) (by kernel_rfl) (by go_grown) ?_
      intro hgc hbx
      simp only [List.take_succ_cons, List.take_zero, List.drop_succ_cons, List.drop_zero]
      repeat (go_big_quiet_step ((go_at_call 80; with_reducible exact Grew.call (hSp.out _ (hbx.out _)))))
      refine wpQuiet_nil ?_
      intro wb hb_wb hw_wb hs_wb
      clear hgc hbx
      have P3 := bk_keep hb_wb N3
      have D4 := bk2 P3
      go_wp2
      refine bodyPost_ret (v := .tuple #[.agg #[.int .i64 D0, .int .i64 den], .bool true]) ?_ rfl ⟨hf.out, ?_⟩
      · exact results_cell2t (p := 6) (u := 7) (ad := ⟨w.heap.size + 1 + 1 + 1, 0, none⟩) (v := .agg #[.int .i64 D0, .int .i64 den]) rfl (by rfl) (run_loadBlock (T := 60) (cs := [.int .i64 D0, .int .i64 den]) (by kernel_rfl) (by kernel_rfl) (bk_here (bk_here P3 _ rfl) _ rfl))
      · go_grown
end Go.Proofs

set_option linter.unusedSimpArgs false
set_option linter.unusedVariables false
namespace Go.Proofs
open Go.RowKit
set_option linter.unusedVariables false
/-! CheckCertificate. -/
def headE (ps : List Pa) (es : List En) (s : ByteArray) (k ag v : Int) : Int := firstE [(bookV ps es).2, unl (nameB s.data.toList) 4, askE k ag, unl (within v 0 1000) 2]
def holdsB (ws : List Int) (es : List En) (den lev : Int) (W : List Int) : Bool := (List.range ws.length).all fun i => !decide (ws.getD i 0 * den + putsL (exs es) W i < lev)
def lessB (k n d v : Int) : Bool := if k = 1 then decide (n * 1000 < v * d) else decide (n < v * d)
def checkE (ps : List Pa) (es : List En) (s : ByteArray) (k ag v den lev : Int) (W : List Int) : Int :=
  if headE ps es s k ag v ≠ 0 then headE ps es s k ag v
  else if weightE es.length den lev W ≠ 0 then weightE es.length den lev W
  else if holdsB (worthL ps k ag) es den lev W then unl (!lessB k (lev - spentL (exs es) W) den v) 24 else 20
theorem holdsB_iff {ws : List Int} {es : List En} {den lev : Int} {W : List Int} : holdsB ws es den lev W = true ↔ ∀ i, i < ws.length → holdsAt ws es den lev W i := by
  unfold holdsB holdsAt
  simp
theorem boundGot_bool {ws : List Int} {es : List En} {den lev : Int} {W : List Int} {e : Ending} (h : boundGot ws es den lev W e) :
    e = .returned (.tuple #[.agg (if holdsB ws es den lev W then #[.int .i64 (lev - spentL (exs es) W), .int .i64 den] else #[.int .i64 0, .int .i64 0]), .bool (holdsB ws es den lev W)]) := by
  rcases h with ⟨h1, rfl⟩ | ⟨⟨i, h1, h2⟩, rfl⟩
  · rw [holdsB_iff.2 h1]; rfl
  · have : holdsB ws es den lev W = false := by
      cases hb : holdsB ws es den lev W with
      | false => rfl
      | true => exact absurd (holdsB_iff.1 hb i h1) h2
    rw [this]; rfl
structure WeightR (en : Nat) (den lev : Int) (W : List Int) : Prop where
  len : W.length = en
  d1 : 1 ≤ den
  dK : den ≤ 1000000000000
  lK : lev.natAbs ≤ 1000000000000
  w : ∀ x ∈ W, 0 ≤ x ∧ x ≤ 1000000000000
theorem weightR_iff {en : Nat} {den lev : Int} {W : List Int} : weightE en den lev W = 0 ↔ WeightR en den lev W := by
  unfold weightE
  rw [firstE_zero]
  simp only [List.mem_cons, List.not_mem_nil, or_false, forall_eq_or_imp, forall_eq]
  rw [unl_zero (by decide), unl_zero (by decide)]
  simp only [Bool.and_eq_true, Bool.not_eq_true', beq_iff_eq]
  have hs : smallB lev 1000000000000 = true ↔ lev.natAbs ≤ 1000000000000 := by unfold smallB; rw [within_iff]; omega
  rw [hs, within_iff, List.any_eq_false]
  unfold badW
  constructor
  · rintro ⟨h1, ⟨h2, h3⟩, h4⟩
    refine ⟨by omega, h2.1, h2.2, h3, fun x hx => ?_⟩
    have := h4 x hx
    simp only [Bool.not_eq_true, Bool.not_eq_false'] at this
    exact within_iff.1 this
  · intro h
    refine ⟨by have := h.len; omega, ⟨⟨h.d1, h.dK⟩, h.lK⟩, fun x hx => ?_⟩
    simp only [Bool.not_eq_true, Bool.not_eq_false']
    exact within_iff.2 (h.w x hx)
set_option maxRecDepth 100000 in
set_option maxHeartbeats 4000000 in
theorem checkCert_any (pA eA A : Option Addr) (pc ec pn en c wn : Nat) (ps : List Pa) (es : List En) (s : ByteArray) (k ag v den lev : Int) (W : List Int) (w : World) (hB : BookAt w pA pc ps eA ec es) (hF : FewB ps es) (hpn : ps.length = pn) (hen : es.length = en)
    (hs : s.size ≤ 1000000) (hW : At 1 Zc w A W) (hwn : W.length = wn) (hl : wn ≤ 1000000) :
    Calls Tryz.prog 21 #[.agg #[.slice pA pn pc, .slice eA en ec], .agg #[.string s, .int .i64 k, .int .i64 ag, .int .i64 v, .int .i64 den, .int .i64 lev, .slice A wn c]] w fun e w' => e = .returned (.int .i64 (checkE ps es s k ag v den lev W)) ∧ Below w.heap.size w w' := by
  have hBo := Lib.hid fun W (hb : Below w.heap.size w W) => bookErr_any pA eA pc ec pn en ps es W (hB.below hb) hF hpn hen
  have hNm := Lib.hid fun W => isName_any s W (by omega)
  have hAs := Lib.hid fun W => checkAsk_any k ag W
  have hVi := Lib.hid fun W => within_any v 0 1000 W
  have hWe := Lib.hid fun x (hb : Below w.heap.size w x) => by
    have h := weightsErr_any pA eA A pc ec pn en c den lev W x (hW.below hb) (by omega) (by rw [← hen]; exact hF.e)
    rw [hwn] at h
    exact h
  have hhd : Hid (headE ps es s k ag v = firstE [(bookV ps es).2, unl (nameB s.data.toList) 4, askE k ag, unl (within v 0 1000) 2]) := rfl
  have hres := Lib.hid (show ∀ E, (if headE ps es s k ag v ≠ 0 then headE ps es s k ag v else if weightE en den lev W ≠ 0 then weightE en den lev W else if holdsB (worthL ps k ag) es den lev W then unl (!lessB k (lev - spentL (exs es) W) den v) 24 else 20) = E → checkE ps es s k ag v den lev W = E from fun E h => by
    unfold checkE
    rw [hen]
    exact h)
  by_cases hH : headE ps es s k ag v = 0
  · rw [hH] at hhd
    have hhd' := Lib.hid hhd.out.symm
    simp only [hH, ne_eq, not_true_eq_false, if_false] at hres
    by_cases hE : weightE en den lev W = 0
    · have hwr := weightR_iff.1 hE
      have hR : BookR ps es := bookR_iff.1 (firstE_zero.1 hhd.out.symm _ (by simp))
      have hv := within_iff.1 ((unl_zero (by decide)).1 (firstE_zero.1 hhd.out.symm (unl (within v 0 1000) 2) (by simp)))
      simp only [hE, ne_eq, not_true_eq_false, if_false] at hres
      rw [hE] at hWe
      have sW : Small 1000000000000 W := fun x hx => by have := hwr.w x hx; omega
      have hBd := Lib.hid (show ∀ x, Below w.heap.size w x → Calls Tryz.prog 52 #[.agg #[.slice pA pn pc, .slice eA en ec], .agg #[.int .i64 k, .int .i64 ag], .agg #[.int .i64 den, .int .i64 lev, .slice A en c]] x fun e w' =>
          e = .returned (.tuple #[.agg (if holdsB (worthL ps k ag) es den lev W then #[.int .i64 (lev - spentL (exs es) W), .int .i64 den] else #[.int .i64 0, .int .i64 0]), .bool (holdsB (worthL ps k ag) es den lev W)]) ∧ Below x.heap.size x w' from fun x hb =>
        (bound_any pA eA A pc ec pn en c ps es k ag den lev W x (hB.below hb) hF hR hpn hen (hW.below hb) (by rw [hwr.len, hen]) sW (by have := hwr.d1; have := hwr.dK; omega) hwr.lK).mono fun e w' h => ⟨boundGot_bool h.1, h.2⟩)
      have hs8 : (spentL (exs es) W).natAbs ≤ 8 * (1000000000000 * 20) := by
        have hs := spentL_bound (X := 20) (Y := 1000000000000) (exs es) W 8 hR.right.exs_mo sW
        rw [List.take_of_length_le (by rw [exs_len]; exact hR.right.n8), List.take_of_length_le (by rw [hwr.len, ← hen]; exact hR.right.n8)] at hs
        exact hs
      have hLs := Lib.hid fun x => isLess_any k ag (lev - spentL (exs es) W) den v x (by have := hwr.lK; omega) (by have := hwr.d1; have := hwr.dK; omega) (by omega)
      have hws : wn = en := by rw [← hwn]; exact hwr.len
      subst hws
      obtain ⟨LS, eLS⟩ : ∃ b, lessB k (lev - spentL (exs es) W) den v = b := ⟨_, rfl⟩
      have eLS' : (if k = 1 then decide ((lev - spentL (exs es) W) * 1000 < v * den) else decide (lev - spentL (exs es) W < v * den)) = LS := eLS
      rw [eLS'] at hLs
      rw [eLS] at hres
      obtain ⟨BD, eBD⟩ : ∃ b, lev - spentL (exs es) W = b := ⟨_, rfl⟩
      rw [eBD] at hLs hBd
      obtain ⟨HB, eHB⟩ : ∃ b, holdsB (worthL ps k ag) es den lev W = b := ⟨_, rfl⟩
      rw [eHB] at hBd hres
      have hr := Lib.hid (hres.out _ rfl)
      clear hB hF hpn hen hW hH hres hhd hwn hE hwr hR hv sW hs8 eLS eLS' eBD eHB
      rw [hr.out]
      clear hr
      cases HB
      all_goals
        simp only [if_true, if_false, Bool.false_eq_true] at hBd ⊢
        go_enter Tryz.func21, Tryz.ntmps21
        go_wp2
        refine wp_world ?_
        intro w1 hw1
        have hb1 : Below w.heap.size w w1 := by rw [hw1]; go_grown
        have M0 : w1.heap[w.heap.size]? = some (.cells #[.slice pA pn pc, .slice eA wn ec] 25 (0, 0)) := by rw [hw1]; (repeat (first | assumption | (refine bk_new _ _ ?_; (simp; done)) | refine bk_drew ?_ | refine bk_alloc ?_ _ | refine bk_set ?_ (by simp <;> omega) _))
        have M1 : w1.heap[w.heap.size + 1]? = some (.cells #[.string s, .int .i64 k, .int .i64 ag, .int .i64 v, .int .i64 den, .int .i64 lev, .slice A wn c] 37 (0, 0)) := by rw [hw1]; (repeat (first | assumption | (refine bk_new _ _ ?_; (simp; done)) | refine bk_drew ?_ | refine bk_alloc ?_ _ | refine bk_set ?_ (by simp <;> omega) _))
        have D0 := bk2 M0
        have D1 := bk7 M1
        clear hw1
        refine region_in w 13 (by kernel_rfl) (by kernel_rfl) hb1 ?_
        intro hgc hbx
        simp only [List.take_succ_cons, List.take_zero, List.drop_succ_cons, List.drop_zero]
        repeat (go_big_quiet_step (first
          | (go_at_call 40; with_reducible exact Grew.call (hBo.out _ (hbx.out _)))
          | (go_at_call 29; with_reducible exact Grew.call (hNm.out _))
          | (go_at_call 37; with_reducible exact Grew.call (hAs.out _))
          | (go_at_call 33; with_reducible exact Grew.call_same (hVi.out _))
          | (go_at_call 36; with_reducible exact Grew.call_same (unless_any _ _ _))))
        refine wpQuiet_nil ?_
        intro wb hb_wb hw_wb hs_wb
        clear hgc hbx
        have N0 := bk_keep hb_wb M0
        have N1 := bk_keep hb_wb M1
        have C0 := bk2 N0
        have C1 := bk7 N1
        have hbw := via hb1 hb_wb
        clear M0 M1 D0 D1 hb1 hb_wb
        have hh := hhd'.out
        go_wp2_with (first
          | (go_at_call 35; refine (first4 _ _ _ _ _).mono ?_; rw [hh]; rintro e w' ⟨rfl, rfl⟩)
          | (go_at_call 51; refine (hWe.out _ (by go_grown)).mono ?_; rintro e w5 ⟨rfl, hb5⟩; (have P0 := bk_keep hb5 (bk_alloc N0 _)); (have P1 := bk_keep hb5 (bk_alloc N1 _)); (have E0 := bk2 P0); (have E1 := bk7 P1); (have hbw5 : Below w.heap.size w w5 := via (by go_grown) hb5); clear hb5)
          | (go_at_call 52; refine (hBd.out _ hbw5).mono ?_; rintro e w6 ⟨rfl, hb6⟩; (have Q1 := bk_keep hb6 P1); (have G1 := bk7 Q1); (have hbw6 : Below w.heap.size w w6 := via hbw5 hb6); clear hb6)
          | (go_at_call 53; refine (hLs.out _).mono ?_; rintro e w7 ⟨rfl, hb7⟩)
          | (go_at_call 36; refine (unless_any _ _ _).mono ?_; rintro e w8 ⟨rfl, rfl⟩))
        go_ret
        first
          | exact ⟨rfl, via (by go_grown) hb7⟩
          | exact ⟨rfl, by go_grown⟩
    · obtain ⟨E, eE⟩ : ∃ E, weightE en den lev W = E := ⟨_, rfl⟩
      rw [if_pos hE, eE] at hres
      rw [eE] at hE hWe
      have hr := Lib.hid (hres.out _ rfl)
      have hEb : (E != 0) = true := by simpa using hE
      have hEb2 : (E == 0) = false := by simpa using hE
      clear hB hF hpn hen hW hH hres hhd eE hwn
      rw [hr.out]
      go_enter Tryz.func21, Tryz.ntmps21
      go_wp2
      refine wp_world ?_
      intro w1 hw1
      have hb1 : Below w.heap.size w w1 := by rw [hw1]; go_grown
      have M0 : w1.heap[w.heap.size]? = some (.cells #[.slice pA pn pc, .slice eA en ec] 25 (0, 0)) := by rw [hw1]; (repeat (first | assumption | (refine bk_new _ _ ?_; (simp; done)) | refine bk_drew ?_ | refine bk_alloc ?_ _ | refine bk_set ?_ (by simp <;> omega) _))
      have M1 : w1.heap[w.heap.size + 1]? = some (.cells #[.string s, .int .i64 k, .int .i64 ag, .int .i64 v, .int .i64 den, .int .i64 lev, .slice A wn c] 37 (0, 0)) := by rw [hw1]; (repeat (first | assumption | (refine bk_new _ _ ?_; (simp; done)) | refine bk_drew ?_ | refine bk_alloc ?_ _ | refine bk_set ?_ (by simp <;> omega) _))
      have D0 := bk2 M0
      have D1 := bk7 M1
      clear hw1
      refine region_in w 13 (by kernel_rfl) (by kernel_rfl) hb1 ?_
      intro hgc hbx
      simp only [List.take_succ_cons, List.take_zero, List.drop_succ_cons, List.drop_zero]
      repeat (go_big_quiet_step (first
        | (go_at_call 40; with_reducible exact Grew.call (hBo.out _ (hbx.out _)))
        | (go_at_call 29; with_reducible exact Grew.call (hNm.out _))
        | (go_at_call 37; with_reducible exact Grew.call (hAs.out _))
        | (go_at_call 33; with_reducible exact Grew.call_same (hVi.out _))
        | (go_at_call 36; with_reducible exact Grew.call_same (unless_any _ _ _))))
      refine wpQuiet_nil ?_
      intro wb hb_wb hw_wb hs_wb
      clear hgc hbx
      have N0 := bk_keep hb_wb M0
      have N1 := bk_keep hb_wb M1
      have C0 := bk2 N0
      have C1 := bk7 N1
      have hbw := via hb1 hb_wb
      clear M0 M1 D0 D1 hb1 hb_wb
      have hh := hhd'.out
      go_wp2_with (first
        | (go_at_call 35; refine (first4 _ _ _ _ _).mono ?_; rw [hh]; rintro e w' ⟨rfl, rfl⟩)
        | (go_at_call 51; refine (hWe.out _ (by go_grown)).mono ?_; rintro e w5 ⟨rfl, hb5⟩))
      go_ret
      exact ⟨rfl, via (by go_grown) hb5⟩
  · obtain ⟨E, eE⟩ : ∃ E, headE ps es s k ag v = E := ⟨_, rfl⟩
    rw [if_pos hH, eE] at hres
    rw [eE] at hH hhd
    have hr := Lib.hid (hres.out _ rfl)
    have hEb : (E != 0) = true := by simpa using hH
    have hEb2 : (E == 0) = false := by simpa using hH
    have hhd' := Lib.hid hhd.out.symm
    clear hB hF hpn hen hW hH hres hhd eE hwn hWe
    rw [hr.out]
    go_enter Tryz.func21, Tryz.ntmps21
    go_wp2
    refine wp_world ?_
    intro w1 hw1
    have hb1 : Below w.heap.size w w1 := by rw [hw1]; go_grown
    have M0 : w1.heap[w.heap.size]? = some (.cells #[.slice pA pn pc, .slice eA en ec] 25 (0, 0)) := by rw [hw1]; (repeat (first | assumption | (refine bk_new _ _ ?_; (simp; done)) | refine bk_drew ?_ | refine bk_alloc ?_ _ | refine bk_set ?_ (by simp <;> omega) _))
    have M1 : w1.heap[w.heap.size + 1]? = some (.cells #[.string s, .int .i64 k, .int .i64 ag, .int .i64 v, .int .i64 den, .int .i64 lev, .slice A wn c] 37 (0, 0)) := by rw [hw1]; (repeat (first | assumption | (refine bk_new _ _ ?_; (simp; done)) | refine bk_drew ?_ | refine bk_alloc ?_ _ | refine bk_set ?_ (by simp <;> omega) _))
    have D0 := bk2 M0
    have D1 := bk7 M1
    clear hw1
    refine region_in w 13 (by kernel_rfl) (by kernel_rfl) hb1 ?_
    intro hgc hbx
    simp only [List.take_succ_cons, List.take_zero, List.drop_succ_cons, List.drop_zero]
    repeat (go_big_quiet_step (first
      | (go_at_call 40; with_reducible exact Grew.call (hBo.out _ (hbx.out _)))
      | (go_at_call 29; with_reducible exact Grew.call (hNm.out _))
      | (go_at_call 37; with_reducible exact Grew.call (hAs.out _))
      | (go_at_call 33; with_reducible exact Grew.call_same (hVi.out _))
      | (go_at_call 36; with_reducible exact Grew.call_same (unless_any _ _ _))))
    refine wpQuiet_nil ?_
    intro wb hb_wb hw_wb hs_wb
    clear hgc hbx
    have N0 := bk_keep hb_wb M0
    have N1 := bk_keep hb_wb M1
    have C0 := bk2 N0
    have C1 := bk7 N1
    have hbw := via hb1 hb_wb
    clear M0 M1 D0 D1 hb1 hb_wb
    have hh := hhd'.out
    go_wp2_with (go_at_call 35; refine (first4 _ _ _ _ _).mono ?_; rw [hh]; rintro e w' ⟨rfl, rfl⟩)
    go_ret
    exact ⟨rfl, by go_grown⟩
end Go.Proofs
