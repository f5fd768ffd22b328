import Derived.Test.YtjfdjjekonkgjaaPl
import Derived.Test.YtjfdjjekonkgjaaDc
import Derived.Test.YtjfdjjekonkgjaaCg
set_option linter.unusedSimpArgs false
set_option linter.unusedVariables false
namespace Go.Proofs
open Go.RowKit

theorem At.oneB {α : Type} {sz : Nat} {cs : α → List Value} {w : World} {A : Option Addr} {l : List α} (h : At sz cs w A l) {i : Nat} {x : α} (hi : l[i]? = some x) :
    ∃ b o, A = some ⟨b, o, none⟩ ∧ ∀ W, Below w.heap.size w W → b < W.heap.size ∧ (∀ k v, (cs x)[k]? = some v → W.cell? ⟨b, o + i * sz + k, none⟩ = some v) := by
  obtain ⟨b, o, rfl, hb, hc⟩ := h i x hi
  exact ⟨b, o, rfl, fun W hW => ⟨Nat.lt_of_lt_of_le hb hW.size, fun k v hv => (hW.cell (p := ⟨b, o + i * sz + k, none⟩) hb).trans (hc k v hv)⟩⟩
theorem At.twoB {α : Type} {sz : Nat} {cs : α → List Value} {w : World} {A : Option Addr} {l : List α} (h : At sz cs w A l) {i j : Nat} {x y : α} (hi : l[i]? = some x) (hj : l[j]? = some y) :
    ∃ b o, A = some ⟨b, o, none⟩ ∧ ∀ W, Below w.heap.size w W → b < W.heap.size ∧ (∀ k v, (cs x)[k]? = some v → W.cell? ⟨b, o + i * sz + k, none⟩ = some v) ∧ (∀ k v, (cs y)[k]? = some v → W.cell? ⟨b, o + j * sz + k, none⟩ = some v) := by
  obtain ⟨b, o, rfl, hb, hc, hc'⟩ := h.two hi hj
  exact ⟨b, o, rfl, fun W hW => ⟨Nat.lt_of_lt_of_le hb hW.size, fun k v hv => (hW.cell (p := ⟨b, o + i * sz + k, none⟩) hb).trans (hc k v hv), fun k v hv => (hW.cell (p := ⟨b, o + j * sz + k, none⟩) hb).trans (hc' k v hv)⟩⟩
theorem bookN_stable (l0 l1 : Int) (rs : List Rd) (ms : List Mv) : ∀ V x x', BookV l0 l1 rs ms V x → Below x.heap.size x x' → BookV l0 l1 rs ms V x' := fun _ _ _ h hb => h.below hb
theorem clashed_take {rs : List Rd} {cask : ByteArray} {ps : List (Nat × Nat)} {m : Nat} {p : Nat × Nat} {y : Rd} (hp : ps[m]? = some p) (hy : rs[p.1]? = some y) : clashed rs cask (ps.take (m + 1)) = (clashed rs cask (ps.take m) || eqS y.c cask) := by
  obtain ⟨hm, he⟩ := List.getElem?_eq_some_iff.1 hp
  unfold clashed
  rw [List.take_succ_eq_append_getElem hm, List.any_append, he]
  simp only [List.any_cons, List.any_nil, Bool.or_false]
  rw [hy]

set_option maxRecDepth 100000 in
set_option maxHeartbeats 4000000 in
theorem gaugeJustTwo_walk (w : World) (l0 l1 : Int) (A A2 : Option Addr) (rs : List Rd) (ms : List Mv) (c c2 : Nat)
    (_ : -9223372036854775808 ≤ l0) (_ : l0 ≤ 9223372036854775807) (_ : -9223372036854775808 ≤ l1) (_ : l1 ≤ 9223372036854775807)
    (hat : At 4 Rd.cs w A rs) (_ : rs.length ≤ c) (_ : A = none → c = 0) (hs : ∀ x ∈ rs, x.c.size ≤ maxLen) (hat2 : At 4 Mv.cs w A2 ms) (_ : ms.length ≤ c2) (_ : A2 = none → c2 = 0) (hs2 : ∀ x ∈ ms, x.f.size ≤ maxLen ∧ x.t.size ≤ maxLen)
    (d0 d1 : Int) (_ : -9223372036854775808 ≤ d0) (_ : d0 ≤ 9223372036854775807) (_ : -9223372036854775808 ≤ d1) (_ : d1 ≤ 9223372036854775807) :
    Calls Try.prog 9 #[.agg #[.int .i64 l0, .int .i64 l1, .slice A rs.length c, .slice A2 ms.length c2], .agg #[.int .i64 d0, .int .i64 d1]] w fun e w' => e = .returned (.bool true) ∧ Below w.heap.size w w' := by
  unfold maxLen at hs hs2
  have hFew := Lib.hid fun W (hb : Below w.heap.size w W) => few_any l0 l1 A A2 rs ms c c2 W hs (hat.below hb) hs2 (hat2.below hb)
  have hRef := Lib.hid fun W (hb : Below w.heap.size w W) => refBookErr_any l0 l1 A A2 rs ms c c2 W hs (hat.below hb) hs2 (hat2.below hb)
  have hCpy := Lib.hid fun (h1 : rs.length ≤ 1000) (h2 : ms.length ≤ 1000) W (hb : Below w.heap.size w W) => copyBook_any l0 l1 A A2 rs ms c c2 W h1 h2 (hat.below hb) (hat2.below hb)
  have hat' := Lib.hid hat
  have hat2' := Lib.hid hat2
  have hAll := Lib.hid fun A A2 c c2 W (h1 : At 4 Rd.cs W A rs) (h2 : At 4 Mv.cs W A2 ms) => contradictions_any l0 l1 A A2 rs ms c c2 W hs h1 hs2 h2
  have hVol := Lib.hid fun cask day A A2 c c2 W (hc : cask.size ≤ 9223372036854775807) (h1 : At 4 Rd.cs W A rs) (h2 : At 4 Mv.cs W A2 ms) => volumeAt_any l0 l1 A A2 rs ms c c2 cask day W hs h1 hs2 h2 hc
  have hs' := Lib.hid hs
  clear hat hat2 hs hs2
  have hX0 := Lib.hid fun W => refDayErr_any d0 W
  have hX1 := Lib.hid fun W => refDayErr_any d1 W
  go_enter Try.func9, Try.ntmps9
  go_wp2_with (first | (go_at_call 15; refine (awake_any _).mono ?_; rintro e w1 ⟨rfl, hb⟩; have hbw := via (by go_grown : Below w.heap.size w _) hb; have B0 : w1.heap[w.heap.size]? = some (.cells #[.int .i64 l0, .int .i64 l1, .slice A rs.length c, .slice A2 ms.length c2] 49 (0, 0)) := bk_keep hb (by (repeat (first | assumption | exact bk_new _ _ (by simp) | refine bk_drew ?_ | refine bk_alloc ?_ _ | refine bk_set ?_ (by simp <;> omega) _))); have B1 : w1.heap[w.heap.size + 1]? = some (.cells #[.int .i64 d0, .int .i64 d1] 42 (0, 0)) := bk_keep hb (by (repeat (first | assumption | exact bk_new _ _ (by simp) | refine bk_drew ?_ | refine bk_alloc ?_ _ | refine bk_set ?_ (by simp <;> omega) _))); have C0 := bk4 B0; have C1 := bk2 B1))
  refine (hFew.out _ hbw).mono ?_
  rintro e w2 ⟨⟨r, rfl, hr⟩, hb⟩
  have hbw := via hbw hb; replace B0 := bk_keep hb B0; replace B1 := bk_keep hb B1; replace C0 := bk4 B0; replace C1 := bk2 B1
  cases r with
  | false =>
    clear hr
    go_wp2_with fail
    refine bodyPost_ret (v := .bool true) ?_ rfl ⟨rfl, ?_⟩
    · simp [results, Try.results9, go_sem]
    · go_grown
  | true =>
  obtain ⟨g1, g2, -, -⟩ := hr rfl
  replace hCpy := Lib.hid (hCpy.out (by omega) (by omega))
  clear hr hFew
  by_cases hd : (checkB l0 l1 rs ms).2 = 0
  case neg =>
    have z2 : ((checkB l0 l1 rs ms).2 != 0) = true := by simpa using hd
    clear hAll hVol hCpy
    generalize (checkB l0 l1 rs ms).2 = d at *
    go_wp2_with (first | (go_at_call 36; refine (hRef.out _ hbw).mono ?_; rintro e w5 ⟨rfl, hb⟩; have hbw := via hbw hb; replace B0 := bk_keep hb B0; replace B1 := bk_keep hb B1; replace C0 := bk4 B0; replace C1 := bk2 B1))
    refine bodyPost_ret (v := .bool true) ?_ rfl ⟨rfl, ?_⟩
    · simp [results, Try.results9, go_sem]
    · go_grown
  rw [hd] at hRef
  cases h0 : within d0 0 100000
  · rw [h0, show unl false 2 = 2 from rfl] at hX0
    clear hAll hVol hCpy
    go_wp2_with (first | (go_at_call 36; refine (hRef.out _ hbw).mono ?_; rintro e w5 ⟨rfl, hb⟩; have hbw := via hbw hb; replace B0 := bk_keep hb B0; replace B1 := bk_keep hb B1; replace C0 := bk4 B0; replace C1 := bk2 B1) | (go_at_call 37; refine Calls.mono (by with_reducible exact hX0.out _) ?_; rintro e w5 ⟨rfl, rfl⟩))
    refine bodyPost_ret (v := .bool true) ?_ rfl ⟨rfl, ?_⟩
    · simp [results, Try.results9, go_sem]
    · go_grown
  rw [h0, show unl true 2 = 0 from rfl] at hX0
  cases h1 : within d1 0 100000
  · rw [h1, show unl false 2 = 2 from rfl] at hX1
    clear hAll hVol hCpy
    go_wp2_with (first | (go_at_call 36; refine (hRef.out _ hbw).mono ?_; rintro e w5 ⟨rfl, hb⟩; have hbw := via hbw hb; replace B0 := bk_keep hb B0; replace B1 := bk_keep hb B1; replace C0 := bk4 B0; replace C1 := bk2 B1) | (go_at_call 37; refine Calls.mono (by with_reducible exact hX0.out _) ?_; rintro e w5 ⟨rfl, rfl⟩) | (go_at_call 37; refine Calls.mono (by with_reducible exact hX1.out _) ?_; rintro e w5 ⟨rfl, rfl⟩))
    refine bodyPost_ret (v := .bool true) ?_ rfl ⟨rfl, ?_⟩
    · simp [results, Try.results9, go_sem]
    · go_grown
  rw [h1, show unl true 2 = 0 from rfl] at hX1
  have q4 : contV l0 l1 rs ms = allPairs l0 l1 rs ms := by unfold contV; rw [if_pos hd]
  rw [q4] at hAll
  rw [hd] at hAll
  have hJ := Lib.hid fun x day (hx : x ∈ rs) (h : within day 0 100000 = true) => just_two (x := x) (day := day) hd hx h
  have hR := right_of hd
  have hpl := allPairs_len l0 l1 rs ms hR.rn
  have hpf := Lib.hid (allPairs_fst l0 l1 rs ms)
  clear q4
  generalize allPairs l0 l1 rs ms = ps at *
  go_wp2_with (first | (go_at_call 36; refine (hRef.out _ hbw).mono ?_; rintro e w5 ⟨rfl, hb⟩; have hbw := via hbw hb; replace B0 := bk_keep hb B0; replace B1 := bk_keep hb B1; replace C0 := bk4 B0; replace C1 := bk2 B1) | (go_at_call 37; refine Calls.mono (by with_reducible exact hX0.out _) ?_; rintro e w5 ⟨rfl, rfl⟩) | (go_at_call 37; refine Calls.mono (by with_reducible exact hX1.out _) ?_; rintro e w5 ⟨rfl, rfl⟩) | (go_at_call 28; refine (hCpy.out _ hbw).mono ?_; rintro e w3 ⟨⟨A3, c3, B3, d3, rfl, h3, h4⟩, hb⟩; have hbw := via hbw hb; replace B0 := bk_keep hb B0; replace B1 := bk_keep hb B1; replace C0 := bk4 B0; replace C1 := bk2 B1) | (go_at_call 38; refine (hAll.out _ _ _ _ _ h3 h4).mono ?_; rintro e w4 ⟨⟨A5, c5, rfl, h5⟩, hb⟩; have hbw := via hbw hb; replace B0 := bk_keep hb B0; replace B1 := bk_keep hb B1; replace C0 := bk4 B0; replace C1 := bk2 B1))
  have h5' := Lib.hid h5
  clear h3 h4 h5 hb hAll hRef hX0 hX1 hd hR
  have hn1 : rs.length ≤ 1000 := by omega
  obtain ⟨np, hnp⟩ : ∃ np, ps.length = np := ⟨_, rfl⟩
  have hnp' := Lib.hid hnp
  rw [hnp] at hpl ⊢
  clear hnp
  go_loopw [7] (fun i wr => ∃ k : Nat, k ≤ rs.length ∧ i = .int .i64 k ∧ Below w.heap.size w wr ∧ wr.heap[w.heap.size]? = some (.cells #[.int .i64 l0, .int .i64 l1, .slice A rs.length c, .slice A2 ms.length c2] 49 (0, 0)) ∧ wr.heap[w.heap.size + 1]? = some (.cells #[.int .i64 d0, .int .i64 d1] 42 (0, 0)) ∧ At 2 Pc wr A5 ps) (fun i _ => rs.length - (intOf i).toNat)
  case atStart => exact ⟨0, Nat.zero_le _, rfl, hbw, B0, B1, h5'.out⟩
  case round =>
    obtain ⟨k, hk, rfl, hbw, B0, B1, h5⟩ := hrel
    have C0 := bk4 B0
    have C1 := bk2 B1
    have h5' := Lib.hid h5
    clear h5
    by_cases hlt : k < rs.length
    · obtain ⟨x, hx⟩ : ∃ x, rs[k]? = some x := ⟨_, List.getElem?_eq_getElem hlt⟩
      have hkI : (k : Int) < (rs.length : Int) := by omega
      go_wp2_with fail
      go_loopw [8, 9] (fun cl i wr => ∃ m : Nat, m ≤ np ∧ i = .int .i64 m ∧ cl = .bool (clashed rs x.c (ps.take m)) ∧ Below w.heap.size w wr ∧ wr.heap[w.heap.size]? = some (.cells #[.int .i64 l0, .int .i64 l1, .slice A rs.length c, .slice A2 ms.length c2] 49 (0, 0)) ∧ wr.heap[w.heap.size + 1]? = some (.cells #[.int .i64 d0, .int .i64 d1] 42 (0, 0)) ∧ At 2 Pc wr A5 ps) (fun _ i _ => np - (intOf i).toNat)
      case atStart => exact ⟨0, Nat.zero_le _, rfl, rfl, hbw, B0, B1, h5'.out⟩
      case round =>
        obtain ⟨m, hm, rfl, rfl, hbw, B0, B1, h5⟩ := hrel
        have C0 := bk4 B0
        have C1 := bk2 B1
        have h5' := Lib.hid h5
        by_cases hlt2 : m < np
        · obtain ⟨p, hp⟩ : ∃ p, ps[m]? = some p := ⟨_, List.getElem?_eq_getElem (by rw [hnp'.out]; exact hlt2)⟩
          obtain ⟨pf1, pf2⟩ := hpf.out p (List.mem_of_getElem? hp)
          obtain ⟨y, hy⟩ : ∃ y, rs[p.1]? = some y := ⟨_, List.getElem?_eq_getElem pf1⟩
          have hct := Lib.hid (clashed_take (cask := x.c) hp hy)
          have hWn := Lib.hid fun W => refWithin_any (p.1 : Int) 0 ((rs.length : Int) - 1) W
          rw [show within (p.1 : Int) 0 ((rs.length : Int) - 1) = true by unfold within; simp; omega] at hWn
          obtain ⟨b, o, rfl, hxy'⟩ := hat'.out.twoB hy hx
          have hxy := Lib.hid hxy'
          obtain ⟨b5, o5, rfl, hz5'⟩ := h5.oneB hp
          have hz5 := Lib.hid hz5'
          obtain ⟨q, hq⟩ : ∃ q, eqS y.c x.c = q := ⟨_, rfl⟩
          obtain ⟨cl, hcl⟩ : ∃ cl, clashed rs x.c (ps.take m) = cl := ⟨_, rfl⟩
          rw [hq, hcl] at hct
          rw [hcl]
          obtain ⟨xc, xd, xl, xh⟩ := x
          obtain ⟨yc, yd, yl, yh⟩ := y
          unfold eqS at hq
          dsimp only at hq
          have hmI : (m : Int) < (np : Int) := by omega
          have hp1I : (p.1 : Int) < (rs.length : Int) := by omega
          obtain ⟨hb5, hc5⟩ := hz5.out wr (Below.refl _ _)
          have v0 := hc5 0 _ rfl
          simp only [Nat.add_zero] at v0
          clear hxy' hz5' hx hy hp h5 hcl hc5
          obtain ⟨hbb, hcx, hcy⟩ := hxy.out wr (hbw)
          have x0 := hcx 0 _ rfl
          have x1 := hcx 1 _ rfl
          have x2 := hcx 2 _ rfl
          have x3 := hcx 3 _ rfl
          have y0 := hcy 0 _ rfl
          have y1 := hcy 1 _ rfl
          have y2 := hcy 2 _ rfl
          have y3 := hcy 3 _ rfl
          simp only [Nat.add_zero] at x0 y0
          dsimp only at x0 x1 x2 x3 y0 y1 y2 y3
          clear hcx hcy
          go_wp2_with fail
          refine region_all w (by kernel_rfl) (by kernel_rfl) (by go_grown) ?_
          intro hgc hbx
          repeat (go_big_quiet_step ((go_at_call 19; exact Grew.call_same (hWn.out _))))
          refine wpQuiet_nil ?_
          intro wa hb hbwa hsw
          clear hgc hbx C0 C1 x0 x1 x2 x3 y0 y1 y2 y3 hbb v0 hb5
          replace B0 := bk_keep hb B0
          replace B1 := bk_keep hb B1
          have C0 := bk4 B0
          have C1 := bk2 B1
          obtain ⟨hb5, hc5⟩ := hz5.out wa hb
          have v0 := hc5 0 _ rfl
          simp only [Nat.add_zero] at v0
          have h6' := Lib.hid (h5'.out.below hb)
          clear hc5 hz5 h5'
          obtain ⟨hbb, hcx, hcy⟩ := hxy.out wa (hbwa)
          have x0 := hcx 0 _ rfl
          have x1 := hcx 1 _ rfl
          have x2 := hcx 2 _ rfl
          have x3 := hcx 3 _ rfl
          have y0 := hcy 0 _ rfl
          have y1 := hcy 1 _ rfl
          have y2 := hcy 2 _ rfl
          have y3 := hcy 3 _ rfl
          simp only [Nat.add_zero] at x0 y0
          dsimp only at x0 x1 x2 x3 y0 y1 y2 y3
          clear hcx hcy
          clear hb
          cases cl
          · cases q
            · go_wp2_with fail
              refine region_all w (by kernel_rfl) (by kernel_rfl) (by go_grown) ?_
              intro hgc hbx
              repeat (go_big_quiet_step (fail))
              refine wpQuiet_nil ?_
              intro wz hb hbwz hsw
              clear hgc hbx
              go_wp2
              go_roundw
              case rel => exact ⟨m + 1, by omega, by go_num, by rw [hct.out]; simp, hbwz, bk_keep hb B0, bk_keep hb B1, h6'.out.below hb⟩
              case measure => simp [intOf]; omega
            · go_wp2_with fail
              refine region_all w (by kernel_rfl) (by kernel_rfl) (by go_grown) ?_
              intro hgc hbx
              repeat (go_big_quiet_step (fail))
              refine wpQuiet_nil ?_
              intro wz hb hbwz hsw
              clear hgc hbx
              go_wp2
              go_roundw
              case rel => exact ⟨m + 1, by omega, by go_num, by rw [hct.out]; simp, hbwz, bk_keep hb B0, bk_keep hb B1, h6'.out.below hb⟩
              case measure => simp [intOf]; omega
          · go_wp2_with fail
            refine region_all w (by kernel_rfl) (by kernel_rfl) (by go_grown) ?_
            intro hgc hbx
            repeat (go_big_quiet_step (fail))
            refine wpQuiet_nil ?_
            intro wz hb hbwz hsw
            clear hgc hbx
            go_wp2
            go_roundw
            case rel => exact ⟨m + 1, by omega, by go_num, by rw [hct.out]; simp, hbwz, bk_keep hb B0, bk_keep hb B1, h6'.out.below hb⟩
            case measure => simp [intOf]; omega
        · have hmn : ¬ (m : Int) < (np : Int) := by omega
          obtain ⟨CL, hCL⟩ : ∃ CL, clashed rs x.c (ps.take m) = CL := ⟨_, rfl⟩
          rw [hCL]
          rw [List.take_of_length_le (by rw [hnp'.out]; omega)] at hCL
          go_wp2_with fail
          go_loopw [10] (fun i wr => ∃ t : Nat, t ≤ 2 ∧ i = .int .i64 t ∧ Below w.heap.size w wr ∧ wr.heap[w.heap.size]? = some (.cells #[.int .i64 l0, .int .i64 l1, .slice A rs.length c, .slice A2 ms.length c2] 49 (0, 0)) ∧ wr.heap[w.heap.size + 1]? = some (.cells #[.int .i64 d0, .int .i64 d1] 42 (0, 0)) ∧ At 2 Pc wr A5 ps) (fun i _ => 2 - (intOf i).toNat)
          case atStart => exact ⟨0, by omega, rfl, hbw, B0, B1, h5'.out⟩
          case round =>
            obtain ⟨t, ht, rfl, hbw, B0, B1, h5⟩ := hrel
            have C0 := bk4 B0
            have C1 := bk2 B1
            have h5' := Lib.hid h5
            clear h5
            have hxm := List.mem_of_getElem? hx
            have hsz := hs'.out x hxm
            have hJ0 := hJ.out x d0 hxm h0
            have hJ1 := hJ.out x d1 hxm h1
            rw [hCL] at hJ0 hJ1
            obtain ⟨b, o, rfl, hxy'⟩ := hat'.out.oneB hx
            have hxy := Lib.hid hxy'
            obtain ⟨xc, xd, xl, xh⟩ := x
            dsimp only at hsz hJ0 hJ1
            clear hxy' hx hxm hJ hCL
            cases CL
            · have htc : t = 0 ∨ t = 1 ∨ t = 2 := by omega
              rcases htc with rfl | rfl | rfl
              · obtain ⟨a', b', hv0, hle⟩ := hJ0.2 rfl
                have hv := Lib.hid hv0
                clear hJ0 hJ1
                go_wp2_with fail
                apply region_copy w 1 11 15 16 93 103 11 (BookV l0 l1 rs ms) ((.tuple #[.agg #[.int .i64 a', .int .i64 b'], .int .i64 0])) (.cells #[.int .i64 0, .int .i64 0] 24 (0, 0)) (.cells #[.int .i64 a', .int .i64 b'] 24 (0, 0))
                case hm => kernel_rfl
                case hB => kernel_rfl
                case hB' => kernel_rfl
                case hS => kernel_rfl
                case hN => kernel_rfl
                case hw => exact hbw
                case hst => exact (bookN_stable l0 l1 rs ms)
                case hal => intro o ho; simp at ho; subst ho; intro a x; kernel_rfl
                case hq =>
                  intro u hu hgc hbx hbX
                  have D0 := bk4 (bk_keep hu B0)
                  have D1 := bk2 (bk_keep hu B1)
                  obtain ⟨hbb, hcx⟩ := hxy.out u (via hbw hu)
                  have x0 := hcx 0 _ rfl
                  simp only [Nat.add_zero] at x0
                  clear hcx
                  simp only [dummyC, struck, yieldsC, Nat.reduceAdd, Nat.reduceBEq, Nat.zero_add, Bool.or_false, Bool.or_true, Bool.false_or, Bool.true_or, Bool.false_eq_true, if_true, if_false, Bool.or_self]
                  repeat (go_big_quiet_step (fail))
                  exact wpQuiet_nil rfl
                case hcp =>
                  intro o ho x hx hw
                  simp only [List.getElem?_cons_succ, List.getElem?_cons_zero, Option.some.injEq] at ho
                  subst ho
                  exact ⟨28, #[.agg #[.int .i64 l0, .int .i64 l1, .slice (some ⟨b, o, none⟩) rs.length c, .slice A2 ms.length c2]], by kernel_rfl, (hCpy.out x hw).mono fun e x' ⟨⟨A', c', B', d', he, h1, h2⟩, hb⟩ => ⟨_, he, ⟨A', c', B', d', rfl, h1, h2⟩, hb⟩⟩
                case hcl =>
                  intro o ho V x hx hw hp
                  simp only [List.getElem?_cons_succ, List.getElem?_cons_zero, Option.some.injEq] at ho
                  subst ho
                  obtain ⟨A', c', B', d', rfl, h1, h2⟩ := hp
                  have hV := hVol.out xc d0 A' B' c' d' x hsz h1 h2
                  rw [hv.out] at hV
                  exact ⟨39, #[.agg #[.int .i64 l0, .int .i64 l1, .slice A' rs.length c', .slice B' ms.length d'], .string xc, .int .i64 d0], by kernel_rfl, hV⟩
                case hsto =>
                  intro o ho B x hx hB hz
                  simp only [List.getElem?_cons_succ, List.getElem?_cons_zero, Option.some.injEq] at ho
                  subst ho
                  exact ⟨_, run_store2 rfl rfl rfl (by kernel_rfl) (by kernel_rfl) (by kernel_rfl) hz, below_in (below_in hx hB _) hB _, bk_here (bk_here hz _ rfl) _ rfl⟩
                case h =>
                  intro M V u hM hu hbu hz
                  simp only [Act.put, List.setIfInBounds_toArray, List.set_cons_succ, List.set_cons_zero]
                  have C2 := bk2 hz
                  go_wp2
                  go_roundw
                  case rel => exact ⟨0 + 1, by omega, by go_num, hbu, bk_keep hu B0, bk_keep hu B1, h5'.out.below hu⟩
                  case measure => simp [intOf]
              · obtain ⟨a', b', hv0, hle⟩ := hJ1.2 rfl
                have hv := Lib.hid hv0
                clear hJ0 hJ1
                go_wp2_with fail
                apply region_copy w 1 11 15 16 93 103 11 (BookV l0 l1 rs ms) ((.tuple #[.agg #[.int .i64 a', .int .i64 b'], .int .i64 0])) (.cells #[.int .i64 0, .int .i64 0] 24 (0, 0)) (.cells #[.int .i64 a', .int .i64 b'] 24 (0, 0))
                case hm => kernel_rfl
                case hB => kernel_rfl
                case hB' => kernel_rfl
                case hS => kernel_rfl
                case hN => kernel_rfl
                case hw => exact hbw
                case hst => exact (bookN_stable l0 l1 rs ms)
                case hal => intro o ho; simp at ho; subst ho; intro a x; kernel_rfl
                case hq =>
                  intro u hu hgc hbx hbX
                  have D0 := bk4 (bk_keep hu B0)
                  have D1 := bk2 (bk_keep hu B1)
                  obtain ⟨hbb, hcx⟩ := hxy.out u (via hbw hu)
                  have x0 := hcx 0 _ rfl
                  simp only [Nat.add_zero] at x0
                  clear hcx
                  simp only [dummyC, struck, yieldsC, Nat.reduceAdd, Nat.reduceBEq, Nat.zero_add, Bool.or_false, Bool.or_true, Bool.false_or, Bool.true_or, Bool.false_eq_true, if_true, if_false, Bool.or_self]
                  repeat (go_big_quiet_step (fail))
                  exact wpQuiet_nil rfl
                case hcp =>
                  intro o ho x hx hw
                  simp only [List.getElem?_cons_succ, List.getElem?_cons_zero, Option.some.injEq] at ho
                  subst ho
                  exact ⟨28, #[.agg #[.int .i64 l0, .int .i64 l1, .slice (some ⟨b, o, none⟩) rs.length c, .slice A2 ms.length c2]], by kernel_rfl, (hCpy.out x hw).mono fun e x' ⟨⟨A', c', B', d', he, h1, h2⟩, hb⟩ => ⟨_, he, ⟨A', c', B', d', rfl, h1, h2⟩, hb⟩⟩
                case hcl =>
                  intro o ho V x hx hw hp
                  simp only [List.getElem?_cons_succ, List.getElem?_cons_zero, Option.some.injEq] at ho
                  subst ho
                  obtain ⟨A', c', B', d', rfl, h1, h2⟩ := hp
                  have hV := hVol.out xc d1 A' B' c' d' x hsz h1 h2
                  rw [hv.out] at hV
                  exact ⟨39, #[.agg #[.int .i64 l0, .int .i64 l1, .slice A' rs.length c', .slice B' ms.length d'], .string xc, .int .i64 d1], by kernel_rfl, hV⟩
                case hsto =>
                  intro o ho B x hx hB hz
                  simp only [List.getElem?_cons_succ, List.getElem?_cons_zero, Option.some.injEq] at ho
                  subst ho
                  exact ⟨_, run_store2 rfl rfl rfl (by kernel_rfl) (by kernel_rfl) (by kernel_rfl) hz, below_in (below_in hx hB _) hB _, bk_here (bk_here hz _ rfl) _ rfl⟩
                case h =>
                  intro M V u hM hu hbu hz
                  simp only [Act.put, List.setIfInBounds_toArray, List.set_cons_succ, List.set_cons_zero]
                  have C2 := bk2 hz
                  go_wp2
                  go_roundw
                  case rel => exact ⟨1 + 1, by omega, by go_num, hbu, bk_keep hu B0, bk_keep hu B1, h5'.out.below hu⟩
                  case measure => simp [intOf]
              · clear hJ0 hJ1
                go_wp2
                go_roundw
                case rel => exact ⟨k + 1, by omega, by go_num, hbw, B0, B1, h5'.out⟩
                case measure => simp [intOf]; omega
            · have htc : t = 0 ∨ t = 1 ∨ t = 2 := by omega
              rcases htc with rfl | rfl | rfl
              · have hv := Lib.hid (hJ0.1 rfl)
                clear hJ0 hJ1
                go_wp2_with fail
                apply region_copy w 1 11 15 16 93 103 11 (BookV l0 l1 rs ms) ((.tuple #[.agg #[.int .i64 0, .int .i64 0], .int .i64 13])) (.cells #[.int .i64 0, .int .i64 0] 24 (0, 0)) (.cells #[.int .i64 0, .int .i64 0] 24 (0, 0))
                case hm => kernel_rfl
                case hB => kernel_rfl
                case hB' => kernel_rfl
                case hS => kernel_rfl
                case hN => kernel_rfl
                case hw => exact hbw
                case hst => exact (bookN_stable l0 l1 rs ms)
                case hal => intro o ho; simp at ho; subst ho; intro a x; kernel_rfl
                case hq =>
                  intro u hu hgc hbx hbX
                  have D0 := bk4 (bk_keep hu B0)
                  have D1 := bk2 (bk_keep hu B1)
                  obtain ⟨hbb, hcx⟩ := hxy.out u (via hbw hu)
                  have x0 := hcx 0 _ rfl
                  simp only [Nat.add_zero] at x0
                  clear hcx
                  simp only [dummyC, struck, yieldsC, Nat.reduceAdd, Nat.reduceBEq, Nat.zero_add, Bool.or_false, Bool.or_true, Bool.false_or, Bool.true_or, Bool.false_eq_true, if_true, if_false, Bool.or_self]
                  repeat (go_big_quiet_step (fail))
                  exact wpQuiet_nil rfl
                case hcp =>
                  intro o ho x hx hw
                  simp only [List.getElem?_cons_succ, List.getElem?_cons_zero, Option.some.injEq] at ho
                  subst ho
                  exact ⟨28, #[.agg #[.int .i64 l0, .int .i64 l1, .slice (some ⟨b, o, none⟩) rs.length c, .slice A2 ms.length c2]], by kernel_rfl, (hCpy.out x hw).mono fun e x' ⟨⟨A', c', B', d', he, h1, h2⟩, hb⟩ => ⟨_, he, ⟨A', c', B', d', rfl, h1, h2⟩, hb⟩⟩
                case hcl =>
                  intro o ho V x hx hw hp
                  simp only [List.getElem?_cons_succ, List.getElem?_cons_zero, Option.some.injEq] at ho
                  subst ho
                  obtain ⟨A', c', B', d', rfl, h1, h2⟩ := hp
                  have hV := hVol.out xc d0 A' B' c' d' x hsz h1 h2
                  rw [hv.out] at hV
                  exact ⟨39, #[.agg #[.int .i64 l0, .int .i64 l1, .slice A' rs.length c', .slice B' ms.length d'], .string xc, .int .i64 d0], by kernel_rfl, hV⟩
                case hsto =>
                  intro o ho B x hx hB hz
                  simp only [List.getElem?_cons_succ, List.getElem?_cons_zero, Option.some.injEq] at ho
                  subst ho
                  exact ⟨_, run_store2 rfl rfl rfl (by kernel_rfl) (by kernel_rfl) (by kernel_rfl) hz, below_in (below_in hx hB _) hB _, bk_here (bk_here hz _ rfl) _ rfl⟩
                case h =>
                  intro M V u hM hu hbu hz
                  simp only [Act.put, List.setIfInBounds_toArray, List.set_cons_succ, List.set_cons_zero]
                  have C2 := bk2 hz
                  go_wp2
                  go_roundw
                  case rel => exact ⟨0 + 1, by omega, by go_num, hbu, bk_keep hu B0, bk_keep hu B1, h5'.out.below hu⟩
                  case measure => simp [intOf]
              · have hv := Lib.hid (hJ1.1 rfl)
                clear hJ0 hJ1
                go_wp2_with fail
                apply region_copy w 1 11 15 16 93 103 11 (BookV l0 l1 rs ms) ((.tuple #[.agg #[.int .i64 0, .int .i64 0], .int .i64 13])) (.cells #[.int .i64 0, .int .i64 0] 24 (0, 0)) (.cells #[.int .i64 0, .int .i64 0] 24 (0, 0))
                case hm => kernel_rfl
                case hB => kernel_rfl
                case hB' => kernel_rfl
                case hS => kernel_rfl
                case hN => kernel_rfl
                case hw => exact hbw
                case hst => exact (bookN_stable l0 l1 rs ms)
                case hal => intro o ho; simp at ho; subst ho; intro a x; kernel_rfl
                case hq =>
                  intro u hu hgc hbx hbX
                  have D0 := bk4 (bk_keep hu B0)
                  have D1 := bk2 (bk_keep hu B1)
                  obtain ⟨hbb, hcx⟩ := hxy.out u (via hbw hu)
                  have x0 := hcx 0 _ rfl
                  simp only [Nat.add_zero] at x0
                  clear hcx
                  simp only [dummyC, struck, yieldsC, Nat.reduceAdd, Nat.reduceBEq, Nat.zero_add, Bool.or_false, Bool.or_true, Bool.false_or, Bool.true_or, Bool.false_eq_true, if_true, if_false, Bool.or_self]
                  repeat (go_big_quiet_step (fail))
                  exact wpQuiet_nil rfl
                case hcp =>
                  intro o ho x hx hw
                  simp only [List.getElem?_cons_succ, List.getElem?_cons_zero, Option.some.injEq] at ho
                  subst ho
                  exact ⟨28, #[.agg #[.int .i64 l0, .int .i64 l1, .slice (some ⟨b, o, none⟩) rs.length c, .slice A2 ms.length c2]], by kernel_rfl, (hCpy.out x hw).mono fun e x' ⟨⟨A', c', B', d', he, h1, h2⟩, hb⟩ => ⟨_, he, ⟨A', c', B', d', rfl, h1, h2⟩, hb⟩⟩
                case hcl =>
                  intro o ho V x hx hw hp
                  simp only [List.getElem?_cons_succ, List.getElem?_cons_zero, Option.some.injEq] at ho
                  subst ho
                  obtain ⟨A', c', B', d', rfl, h1, h2⟩ := hp
                  have hV := hVol.out xc d1 A' B' c' d' x hsz h1 h2
                  rw [hv.out] at hV
                  exact ⟨39, #[.agg #[.int .i64 l0, .int .i64 l1, .slice A' rs.length c', .slice B' ms.length d'], .string xc, .int .i64 d1], by kernel_rfl, hV⟩
                case hsto =>
                  intro o ho B x hx hB hz
                  simp only [List.getElem?_cons_succ, List.getElem?_cons_zero, Option.some.injEq] at ho
                  subst ho
                  exact ⟨_, run_store2 rfl rfl rfl (by kernel_rfl) (by kernel_rfl) (by kernel_rfl) hz, below_in (below_in hx hB _) hB _, bk_here (bk_here hz _ rfl) _ rfl⟩
                case h =>
                  intro M V u hM hu hbu hz
                  simp only [Act.put, List.setIfInBounds_toArray, List.set_cons_succ, List.set_cons_zero]
                  have C2 := bk2 hz
                  go_wp2
                  go_roundw
                  case rel => exact ⟨1 + 1, by omega, by go_num, hbu, bk_keep hu B0, bk_keep hu B1, h5'.out.below hu⟩
                  case measure => simp [intOf]
              · clear hJ0 hJ1
                go_wp2
                go_roundw
                case rel => exact ⟨k + 1, by omega, by go_num, hbw, B0, B1, h5'.out⟩
                case measure => simp [intOf]; omega
    · have hkn : ¬ (k : Int) < (rs.length : Int) := by omega
      go_wp2_with fail
      refine bodyPost_ret (v := .bool true) ?_ rfl ⟨rfl, ?_⟩
      · simp [results, Try.results9, go_sem]
      · go_grown
end Go.Proofs
