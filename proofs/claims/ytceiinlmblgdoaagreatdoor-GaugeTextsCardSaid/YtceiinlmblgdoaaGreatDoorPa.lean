import Derived.Test.YtceiinlmblgdoaaGreatDoorAt
import Derived.Test.YtceiinlmblgdoaaGreatDoorBk2
set_option linter.unusedSimpArgs false
set_option linter.unusedVariables false
namespace Go.Proofs
open Go.RowKit

/-- The gauging with a text, or an error. -/
structure Gx where
  c : List UInt8
  d : Int
  lo : Int
  hi : Int
def Gx.cs (x : Gx) : List Value := [.string (bs x.c), .int .i64 x.d, .int .i64 x.lo, .int .i64 x.hi]
def gx0 : Gx := ⟨[], 0, 0, 0⟩
def parseG (l : List UInt8) : Gx × Int :=
  match cutL l with
  | [a, b0, b1, b2] =>
    if a = [] then (gx0, 7) else
    match parseN b0, parseN b1, parseN b2 with
    | some x, some y, some z => if gaugingE a x y z = 0 then (⟨a, x, y, z⟩, 0) else (gx0, gaugingE a x y z)
    | _, _, _ => (gx0, 7)
  | _ => (gx0, 7)
def gval (p : Gx × Int) : Value := .tuple #[.agg #[.string (bs p.1.c), .int .i64 p.1.d, .int .i64 p.1.lo, .int .i64 p.1.hi], .int .i64 p.2]
theorem parseG_short {l : List UInt8} (h : (cutL l).length ≠ 4) : parseG l = (gx0, 7) := by
  unfold parseG
  split
  · rename_i e; rw [e] at h; exact (h rfl).elim
  · rfl
theorem bs_ne {a : List UInt8} (h : a ≠ []) : (bs a).toList.isEmpty = false := by
  rw [ByteArray.toList_eq, bs_data]
  cases a with
  | nil => exact (h rfl).elim
  | cons c a => rfl
theorem cut_len (l : List UInt8) : ∀ b ∈ cutL l, b.length ≤ l.length := by
  induction l with
  | nil => intro b hb; simp [cutL] at hb; subst hb; simp
  | cons c l ih =>
    intro b hb
    unfold cutL at hb
    split at hb
    · rcases List.mem_cons.1 hb with rfl | hb
      · simp
      · have := ih b hb; simp; omega
    · obtain ⟨h, t, e⟩ := cutL_cons 0 l
      rw [e] at hb ih
      dsimp only at hb
      rcases List.mem_cons.1 hb with rfl | hb
      · have := ih h (List.mem_cons_self ..); simp; omega
      · have := ih b (List.mem_cons_of_mem _ hb); simp; omega
theorem bs_eqL (a b : List UInt8) : ((bs a).toList == (bs b).toList) = (a == b) := by rw [ByteArray.toList_eq, ByteArray.toList_eq, bs_data, bs_data]
theorem pieces4 {w : World} {A : Option Addr} {a b0 b1 b2 : List UInt8} (h : At 1 Sc w A [a, b0, b1, b2]) : ∃ b o, A = some ⟨b, o, none⟩ ∧ b < w.heap.size ∧ w.cell? ⟨b, o, none⟩ = some (.string (bs a)) ∧ w.cell? ⟨b, o + 1, none⟩ = some (.string (bs b0)) ∧ w.cell? ⟨b, o + 2, none⟩ = some (.string (bs b1)) ∧ w.cell? ⟨b, o + 3, none⟩ = some (.string (bs b2)) := by
  obtain ⟨b, o, rfl, hb, h0⟩ := h 0 a rfl
  refine ⟨b, o, rfl, hb, h0 0 _ rfl, ?_, ?_, ?_⟩
  · obtain ⟨b', o', e, -, h1⟩ := h 1 b0 rfl
    simp only [Option.some.injEq, Addr.mk.injEq, and_true] at e
    obtain ⟨rfl, rfl⟩ := e
    exact h1 0 _ rfl
  · obtain ⟨b', o', e, -, h1⟩ := h 2 b1 rfl
    simp only [Option.some.injEq, Addr.mk.injEq, and_true] at e
    obtain ⟨rfl, rfl⟩ := e
    exact h1 0 _ rfl
  · obtain ⟨b', o', e, -, h1⟩ := h 3 b2 rfl
    simp only [Option.some.injEq, Addr.mk.injEq, and_true] at e
    obtain ⟨rfl, rfl⟩ := e
    exact h1 0 _ rfl
theorem atoi_bd {l : List UInt8} {n : Int} (h : Lib.atoiAll l = .ok n) : -9223372036854775808 ≤ n ∧ n ≤ 9223372036854775807 := by
  unfold Lib.atoiAll at h
  split at h
  · cases h
  · dsimp only at h
    split at h
    · cases h
    · cases h
    · split at h
      · cases h
      · split at h
        · cases h
        · injection h with h
          subst h
          split <;> simp_all <;> omega
theorem parseG_four {l a b0 b1 b2 : List UInt8} (h : cutL l = [a, b0, b1, b2]) : parseG l = if a = [] then (gx0, 7) else
    match parseN b0, parseN b1, parseN b2 with
    | some x, some y, some z => if gaugingE a x y z = 0 then (⟨a, x, y, z⟩, 0) else (gx0, gaugingE a x y z)
    | _, _, _ => (gx0, 7) := by unfold parseG; rw [h]
def nv (b : List UInt8) : Int := (parseN b).getD 0
theorem parse_bad3 {a b0 b1 b2 : List UInt8} (h : parseN b0 = none ∨ parseN b1 = none ∨ parseN b2 = none) :
    (match parseN b0, parseN b1, parseN b2 with
    | some x, some y, some z => if gaugingE a x y z = 0 then ((⟨a, x, y, z⟩ : Gx), (0 : Int)) else (gx0, gaugingE a x y z)
    | _, _, _ => (gx0, 7)) = (gx0, 7) := by
  cases h0 : parseN b0 with
  | none => rfl
  | some x =>
    cases h1 : parseN b1 with
    | none => rfl
    | some y =>
      cases h2 : parseN b2 with
      | none => rfl
      | some z => rw [h0, h1, h2] at h; rcases h with h | h | h <;> cases h
theorem parse_good3 {a b0 b1 b2 : List UInt8} (h0 : parseN b0 ≠ none) (h1 : parseN b1 ≠ none) (h2 : parseN b2 ≠ none) :
    (match parseN b0, parseN b1, parseN b2 with
    | some x, some y, some z => if gaugingE a x y z = 0 then ((⟨a, x, y, z⟩ : Gx), (0 : Int)) else (gx0, gaugingE a x y z)
    | _, _, _ => (gx0, 7)) = if gaugingE a (nv b0) (nv b1) (nv b2) = 0 then (⟨a, nv b0, nv b1, nv b2⟩, 0) else (gx0, gaugingE a (nv b0) (nv b1) (nv b2)) := by
  unfold nv
  cases e0 : parseN b0 with
  | none => exact (h0 e0).elim
  | some x =>
    cases e1 : parseN b1 with
    | none => exact (h1 e1).elim
    | some y =>
      cases e2 : parseN b2 with
      | none => exact (h2 e2).elim
      | some z => rfl
set_option maxRecDepth 100000 in
set_option maxHeartbeats 4000000 in
theorem parse_any (s : ByteArray) (w : World) (hs : s.size ≤ 1000) (ht : Tabs w) :
    Calls Tryz.prog 6 #[.string s] w fun e w' => e = .returned (gval (parseG s.data.toList)) ∧ Below w.heap.size w w' := by
  obtain ⟨l, hl⟩ : ∃ l, s.data.toList = l := ⟨_, rfl⟩
  have hSp := Lib.hid fun W (h : Tabs W) => split_any s W hs h
  rw [hl] at hSp ⊢
  have hll : l.length ≤ 1000 := by rw [← hl]; simpa using hs
  clear hl
  have hcl := Lib.hid (cut_len l)
  by_cases h4 : (cutL l).length = 4
  · obtain ⟨a, b0, b1, b2, hP⟩ : ∃ a b0 b1 b2, cutL l = [a, b0, b1, b2] := by
      match h : cutL l, h4 with
      | [a, b0, b1, b2], _ => exact ⟨a, b0, b1, b2, rfl⟩
    have hG := parseG_four hP
    rw [hP] at hSp hcl
    have l0 : b0.length ≤ 1000 := by have := hcl.out b0 (by simp); omega
    have l1 : b1.length ≤ 1000 := by have := hcl.out b1 (by simp); omega
    have l2 : b2.length ≤ 1000 := by have := hcl.out b2 (by simp); omega
    clear hP h4
    by_cases ha : a = []
    · rw [if_pos ha] at hG
      rw [hG]
      have hae : (bs a).toList.isEmpty = true := by rw [ha, ByteArray.toList_eq, bs_data]; rfl
      clear hG ha
      go_enter Tryz.func6, Tryz.ntmps6
      go_wp2_with (go_at_call 18; refine (hSp.out _ (ht.below (by go_grown))).mono ?_; rintro e w1 ⟨⟨A, c, rfl, hat⟩, hb⟩; obtain ⟨bb, oo, rfl, hbb, p0, p1, p2, p3⟩ := pieces4 hat; have hbw := via (by go_grown : Below w.heap.size w _) hb; have B2 := bk_keep hb (bk_new _ _ rfl); have C2 := bk4 B2)
      refine bodyPost_ret (v := gval (gx0, 7)) ?_ rfl ⟨rfl, ?_⟩
      · simp [results, Tryz.results6, go_sem, C2, gval, gx0]
        rfl
      · go_grown
    · rw [if_neg ha] at hG
      have hae := bs_ne ha
      have hG' := Lib.hid hG
      clear hG ha
      go_enter Tryz.func6, Tryz.ntmps6
      go_wp2_with (go_at_call 18; refine (hSp.out _ (ht.below (by go_grown))).mono ?_; rintro e w1 ⟨⟨A, c, rfl, hat⟩, hb⟩; obtain ⟨bb, oo, rfl, hbb, p0, p1, p2, p3⟩ := pieces4 hat; have hbw := via (by go_grown : Below w.heap.size w _) hb; have B2 := bk_keep hb (bk_new _ _ rfl); have C2 := bk4 B2)
      refine wp_world ?_
      intro W hW_W
      have hb_W : Below w.heap.size w W := by rw [hW_W]; go_grown
      obtain ⟨X, hX⟩ : ∃ X, w1.heap.size = X := ⟨_, rfl⟩
      have D2 : W.heap[w.heap.size]? = some (.cells #[.string ⟨#[]⟩, .int .i64 0, .int .i64 0, .int .i64 0] 25 (0, 0)) := by rw [hW_W]; exact bk_alloc (bk_alloc B2 _) _
      have DX0 : W.heap[X]? = some (.cells #[.string (bs a), .int .i64 0, .int .i64 0, .int .i64 0] 25 (0, 0)) := by rw [hW_W]; exact bk_alloc (bk_new _ _ hX.symm) _
      have hb1 : Below w1.heap.size w1 W := by rw [hW_W]; exact via_alloc (new_below _ _) _
      have hRX : w.heap.size < X := by rw [← hX]; exact bk_size B2
      have hPP : Hid (w1.cell? ⟨bb, oo + 1, none⟩ = some (.string (bs b0)) ∧ w1.cell? ⟨bb, oo + 2, none⟩ = some (.string (bs b1)) ∧ w1.cell? ⟨bb, oo + 3, none⟩ = some (.string (bs b2))) := ⟨p1, p2, p3⟩
      rw [hX] at hb1 hbb ⊢
      clear hW_W B2 C2 hb hbw p0 p1 p2 p3 hat
      have hix0 : ∀ V, Sem.run Tryz.prog (Instr.index 56 (.agg #[.pointer (some ⟨X, 1, none⟩), .pointer (some ⟨X, 2, none⟩), .pointer (some ⟨X, 3, none⟩)]) (.int .i64 0)) V = .ok (.pointer (some ⟨X, 1, none⟩)) V := fun _ => by kernel_rfl
      have hix1 : ∀ V, Sem.run Tryz.prog (Instr.index 56 (.agg #[.pointer (some ⟨X, 1, none⟩), .pointer (some ⟨X, 2, none⟩), .pointer (some ⟨X, 3, none⟩)]) (.int .i64 1)) V = .ok (.pointer (some ⟨X, 2, none⟩)) V := fun _ => by kernel_rfl
      have hix2 : ∀ V, Sem.run Tryz.prog (Instr.index 56 (.agg #[.pointer (some ⟨X, 1, none⟩), .pointer (some ⟨X, 2, none⟩), .pointer (some ⟨X, 3, none⟩)]) (.int .i64 2)) V = .ok (.pointer (some ⟨X, 3, none⟩)) V := fun _ => by kernel_rfl
      go_loopw [35] (fun i wr => ∃ k : Nat, k ≤ 3 ∧ i = .int .i64 (k : Int) ∧ Below w.heap.size w wr ∧ Below X w1 wr ∧ wr.heap[w.heap.size]? = some (.cells #[.string ⟨#[]⟩, .int .i64 0, .int .i64 0, .int .i64 0] 25 (0, 0)) ∧
        wr.heap[X]? = some (.cells #[.string (bs a), .int .i64 (if 0 < k then nv b0 else 0), .int .i64 (if 1 < k then nv b1 else 0), .int .i64 (if 2 < k then nv b2 else 0)] 25 (0, 0)) ∧ Hid ((0 < k → parseN b0 ≠ none) ∧ (1 < k → parseN b1 ≠ none) ∧ (2 < k → parseN b2 ≠ none))) (fun i _ => 3 - (intOf i).toNat)
      case atStart => exact ⟨0, by omega, rfl, hb_W, hb1, D2, DX0, by unfold Hid; simp⟩
      case round =>
        clear hb_W D2 DX0 hb1
        obtain ⟨k, hk, rfl, hbw, hb1, D2, DX0, hok⟩ := hrel
        have C2 := bk4 D2
        have q0 := (hb1.cell (p := ⟨bb, oo + 1, none⟩) hbb).trans hPP.out.1
        have q1 := (hb1.cell (p := ⟨bb, oo + 2, none⟩) hbb).trans hPP.out.2.1
        have q2 := (hb1.cell (p := ⟨bb, oo + 3, none⟩) hbb).trans hPP.out.2.2
        have hXw : X < wr.heap.size := bk_size DX0
        have hbbw : bb < wr.heap.size := by omega
        rcases (by omega : k = 0 ∨ k = 1 ∨ k = 2 ∨ k = 3) with rfl | rfl | rfl | rfl
        · have DX : wr.heap[X]? = some (.cells #[.string (bs a), .int .i64 (0), .int .i64 (0), .int .i64 (0)] 25 (0, 0)) := DX0
          clear DX0
          have CX := bk4 DX
          by_cases hex : ∃ n, Lib.atoiAll b0 = .ok n
          · obtain ⟨n, hn⟩ := hex
            have hbd := atoi_bd hn
            have hA := Lib.hid fun W => atoi_ok b0 n W l0 hn
            have hI := Lib.hid fun W (hb : Below w.heap.size w W) => itoa_any n W hbd.1 hbd.2 (ht.below hb)
            have hT := Lib.hid fun W => trim_any b0 W
            have way := Lib.hid ((parse_way b0).1 n hn)
            obtain ⟨t, hte⟩ : ∃ t, Lib.itoa n = t := ⟨_, rfl⟩
            rw [hte] at hI way
            clear hn hbd hte
            have hlb := l0
            by_cases e1 : t = b0
            · have f1 : ((bs t).toList == (bs b0).toList) = true := by rw [bs_eqL, e1]; simp
              have f2 : ((bs t).toList != (bs b0).toList) = false := by rw [bne, f1]; rfl
              by_cases e2 : 9 < (magL b0).length
              · have f3 : 9 < ((bs (magL b0)).size : Int) := by rw [bs_size]; omega
                have f4 : decide (9 < ((bs (magL b0)).size : Int)) = true := by simpa using f3
                have f5 : decide (9 < (bs (magL b0)).size) = true := by rw [bs_size]; simpa using e2
                have hpn : parseN b0 = none := way.out.2 (fun h => by omega)
                clear e1 e2
                have hbad : Hid (parseG l = (gx0, 7)) := by unfold Hid; rw [hG'.out]; exact parse_bad3 (.inl hpn)
                clear hpn
                go_wp2_with (go_at_call 19; refine (hA.out _).mono ?_; rintro e w2 ⟨rfl, hb⟩; have hbw2 := via hbw hb; replace D2 := bk_keep hb D2; replace C2 := bk4 D2; replace q0 := cell_below q0 hb; replace q1 := cell_below q1 hb; replace q2 := cell_below q2 hb; replace hbbw := Nat.lt_of_lt_of_le hbbw hb.size)
                refine region_all w (by kernel_rfl) (by kernel_rfl) (by go_grown) ?_
                intro hgc hbx
                repeat (go_big_quiet_step ((first | (go_at_call 17; with_reducible exact Grew.call (hI.out _ (hbx.out _))) | (go_at_call 20; with_reducible exact Grew.call_same (hT.out _)))))
                refine wpQuiet_nil ?_
                intro wx hb_wx hw_wx hs_wx
                clear hgc hbx
                replace C2 := bk4 (bk_keep hb_wx D2)
                go_wp2
                refine bodyPost_ret (v := gval (gx0, 7)) ?_ rfl ⟨by rw [hbad.out], ?_⟩
                · simp [results, Tryz.results6, go_sem, C2, gval, gx0]
                  rfl
                · go_grown
              · have f3 : ¬ 9 < ((bs (magL b0)).size : Int) := by rw [bs_size]; omega
                have f4 : decide (9 < ((bs (magL b0)).size : Int)) = false := by simpa using f3
                have f5 : decide (9 < (bs (magL b0)).size) = false := by rw [bs_size]; simpa using e2
                have hpn : parseN b0 = some n := way.out.1 ⟨e1, by omega⟩
                have hnv : Hid (nv b0 = n) := by unfold Hid nv; rw [hpn]; rfl
                have hpn' : Hid (parseN b0 ≠ none) := by unfold Hid; rw [hpn]; simp
                clear e1 e2 hpn
                go_wp2_with (go_at_call 19; refine (hA.out _).mono ?_; rintro e w2 ⟨rfl, hb⟩; have hbw2 := via hbw hb; replace D2 := bk_keep hb D2; replace DX := bk_keep hb DX; replace C2 := bk4 D2; replace CX := bk4 DX; replace q0 := cell_below q0 hb; replace q1 := cell_below q1 hb; replace q2 := cell_below q2 hb; replace hbbw := Nat.lt_of_lt_of_le hbbw hb.size)
                refine region_all w (by kernel_rfl) (by kernel_rfl) (by go_grown) ?_
                intro hgc hbx
                repeat (go_big_quiet_step ((first | (go_at_call 17; with_reducible exact Grew.call (hI.out _ (hbx.out _))) | (go_at_call 20; with_reducible exact Grew.call_same (hT.out _)))))
                refine wpQuiet_nil ?_
                intro wx hb_wx hw_wx hs_wx
                clear hgc hbx
                replace D2 := bk_keep hb_wx D2
                replace DX := bk_keep hb_wx DX
                replace C2 := bk4 D2
                replace CX := bk4 DX
                have hXx : X < wx.heap.size := bk_size DX
                have hb1' : Below X w1 wx := (hb1.trans (hb.mono (by omega))).trans (hb_wx.mono (by have := hb.size; omega))
                go_wp2
                go_roundw
                case rel => exact ⟨0 + 1, by omega, by go_num, hw_wx.setCell (by dsimp only; omega) _, hb1'.setCell (Nat.le_refl _) _, bk_set D2 (by dsimp only; omega) _, bk_here DX _ (by rw [← hnv.out]; rfl), by have := hok.out; have := hpn'.out; unfold Hid; refine ⟨?_, ?_, ?_⟩ <;> intro _ <;> first | assumption | (simp_all; done) | omega⟩
                case measure => simp [intOf]
            · have f1 : ((bs t).toList == (bs b0).toList) = false := by rw [bs_eqL]; simpa using e1
              have f2 : ((bs t).toList != (bs b0).toList) = true := by rw [bne, f1]; rfl
              have hpn : parseN b0 = none := way.out.2 (fun h => e1 h.1)
              clear e1
              have hbad : Hid (parseG l = (gx0, 7)) := by unfold Hid; rw [hG'.out]; exact parse_bad3 (.inl hpn)
              clear hpn
              go_wp2_with (go_at_call 19; refine (hA.out _).mono ?_; rintro e w2 ⟨rfl, hb⟩; have hbw2 := via hbw hb; replace D2 := bk_keep hb D2; replace C2 := bk4 D2; replace q0 := cell_below q0 hb; replace q1 := cell_below q1 hb; replace q2 := cell_below q2 hb; replace hbbw := Nat.lt_of_lt_of_le hbbw hb.size)
              refine region_all w (by kernel_rfl) (by kernel_rfl) (by go_grown) ?_
              intro hgc hbx
              repeat (go_big_quiet_step ((first | (go_at_call 17; with_reducible exact Grew.call (hI.out _ (hbx.out _))) | (go_at_call 20; with_reducible exact Grew.call_same (hT.out _)))))
              refine wpQuiet_nil ?_
              intro wx hb_wx hw_wx hs_wx
              clear hgc hbx
              replace C2 := bk4 (bk_keep hb_wx D2)
              go_wp2
              refine bodyPost_ret (v := gval (gx0, 7)) ?_ rfl ⟨by rw [hbad.out], ?_⟩
              · simp [results, Tryz.results6, go_sem, C2, gval, gx0]
                rfl
              · go_grown
          · have hpn : parseN b0 = none := (parse_way b0).2 (fun n hn => hex ⟨n, hn⟩)
            have hbad : Hid (parseG l = (gx0, 7)) := by unfold Hid; rw [hG'.out]; exact parse_bad3 (.inl hpn)
            have hA := Lib.hid fun W (hb : Below w.heap.size w W) => atoi_bad b0 W l0 (fun n hn => hex ⟨n, hn⟩) (ht.below hb)
            clear hpn hex
            go_wp2_with (go_at_call 19; refine (hA.out _ (by go_grown)).mono ?_; rintro e w2 ⟨⟨m, N, rfl⟩, hb⟩; have hbw2 := via hbw hb; replace D2 := bk_keep hb D2; replace C2 := bk4 D2)
            refine region_all w (by kernel_rfl) (by kernel_rfl) (by go_grown) ?_
            intro hgc hbx
            repeat (go_big_quiet_step (fail))
            refine wpQuiet_nil ?_
            intro wx hb_wx hw_wx hs_wx
            clear hgc hbx
            replace C2 := bk4 (bk_keep hb_wx D2)
            go_wp2
            refine bodyPost_ret (v := gval (gx0, 7)) ?_ rfl ⟨by rw [hbad.out], ?_⟩
            · simp [results, Tryz.results6, go_sem, C2, gval, gx0]
              rfl
            · go_grown
        · have DX : wr.heap[X]? = some (.cells #[.string (bs a), .int .i64 (nv b0), .int .i64 (0), .int .i64 (0)] 25 (0, 0)) := DX0
          clear DX0
          have CX := bk4 DX
          by_cases hex : ∃ n, Lib.atoiAll b1 = .ok n
          · obtain ⟨n, hn⟩ := hex
            have hbd := atoi_bd hn
            have hA := Lib.hid fun W => atoi_ok b1 n W l1 hn
            have hI := Lib.hid fun W (hb : Below w.heap.size w W) => itoa_any n W hbd.1 hbd.2 (ht.below hb)
            have hT := Lib.hid fun W => trim_any b1 W
            have way := Lib.hid ((parse_way b1).1 n hn)
            obtain ⟨t, hte⟩ : ∃ t, Lib.itoa n = t := ⟨_, rfl⟩
            rw [hte] at hI way
            clear hn hbd hte
            have hlb := l1
            by_cases e1 : t = b1
            · have f1 : ((bs t).toList == (bs b1).toList) = true := by rw [bs_eqL, e1]; simp
              have f2 : ((bs t).toList != (bs b1).toList) = false := by rw [bne, f1]; rfl
              by_cases e2 : 9 < (magL b1).length
              · have f3 : 9 < ((bs (magL b1)).size : Int) := by rw [bs_size]; omega
                have f4 : decide (9 < ((bs (magL b1)).size : Int)) = true := by simpa using f3
                have f5 : decide (9 < (bs (magL b1)).size) = true := by rw [bs_size]; simpa using e2
                have hpn : parseN b1 = none := way.out.2 (fun h => by omega)
                clear e1 e2
                have hbad : Hid (parseG l = (gx0, 7)) := by unfold Hid; rw [hG'.out]; exact parse_bad3 (.inr (.inl hpn))
                clear hpn
                go_wp2_with (go_at_call 19; refine (hA.out _).mono ?_; rintro e w2 ⟨rfl, hb⟩; have hbw2 := via hbw hb; replace D2 := bk_keep hb D2; replace C2 := bk4 D2; replace q0 := cell_below q0 hb; replace q1 := cell_below q1 hb; replace q2 := cell_below q2 hb; replace hbbw := Nat.lt_of_lt_of_le hbbw hb.size)
                refine region_all w (by kernel_rfl) (by kernel_rfl) (by go_grown) ?_
                intro hgc hbx
                repeat (go_big_quiet_step ((first | (go_at_call 17; with_reducible exact Grew.call (hI.out _ (hbx.out _))) | (go_at_call 20; with_reducible exact Grew.call_same (hT.out _)))))
                refine wpQuiet_nil ?_
                intro wx hb_wx hw_wx hs_wx
                clear hgc hbx
                replace C2 := bk4 (bk_keep hb_wx D2)
                go_wp2
                refine bodyPost_ret (v := gval (gx0, 7)) ?_ rfl ⟨by rw [hbad.out], ?_⟩
                · simp [results, Tryz.results6, go_sem, C2, gval, gx0]
                  rfl
                · go_grown
              · have f3 : ¬ 9 < ((bs (magL b1)).size : Int) := by rw [bs_size]; omega
                have f4 : decide (9 < ((bs (magL b1)).size : Int)) = false := by simpa using f3
                have f5 : decide (9 < (bs (magL b1)).size) = false := by rw [bs_size]; simpa using e2
                have hpn : parseN b1 = some n := way.out.1 ⟨e1, by omega⟩
                have hnv : Hid (nv b1 = n) := by unfold Hid nv; rw [hpn]; rfl
                have hpn' : Hid (parseN b1 ≠ none) := by unfold Hid; rw [hpn]; simp
                clear e1 e2 hpn
                go_wp2_with (go_at_call 19; refine (hA.out _).mono ?_; rintro e w2 ⟨rfl, hb⟩; have hbw2 := via hbw hb; replace D2 := bk_keep hb D2; replace DX := bk_keep hb DX; replace C2 := bk4 D2; replace CX := bk4 DX; replace q0 := cell_below q0 hb; replace q1 := cell_below q1 hb; replace q2 := cell_below q2 hb; replace hbbw := Nat.lt_of_lt_of_le hbbw hb.size)
                refine region_all w (by kernel_rfl) (by kernel_rfl) (by go_grown) ?_
                intro hgc hbx
                repeat (go_big_quiet_step ((first | (go_at_call 17; with_reducible exact Grew.call (hI.out _ (hbx.out _))) | (go_at_call 20; with_reducible exact Grew.call_same (hT.out _)))))
                refine wpQuiet_nil ?_
                intro wx hb_wx hw_wx hs_wx
                clear hgc hbx
                replace D2 := bk_keep hb_wx D2
                replace DX := bk_keep hb_wx DX
                replace C2 := bk4 D2
                replace CX := bk4 DX
                have hXx : X < wx.heap.size := bk_size DX
                have hb1' : Below X w1 wx := (hb1.trans (hb.mono (by omega))).trans (hb_wx.mono (by have := hb.size; omega))
                go_wp2
                go_roundw
                case rel => exact ⟨1 + 1, by omega, by go_num, hw_wx.setCell (by dsimp only; omega) _, hb1'.setCell (Nat.le_refl _) _, bk_set D2 (by dsimp only; omega) _, bk_here DX _ (by rw [← hnv.out]; rfl), by have := hok.out; have := hpn'.out; unfold Hid; refine ⟨?_, ?_, ?_⟩ <;> intro _ <;> first | assumption | (simp_all; done) | omega⟩
                case measure => simp [intOf]
            · have f1 : ((bs t).toList == (bs b1).toList) = false := by rw [bs_eqL]; simpa using e1
              have f2 : ((bs t).toList != (bs b1).toList) = true := by rw [bne, f1]; rfl
              have hpn : parseN b1 = none := way.out.2 (fun h => e1 h.1)
              clear e1
              have hbad : Hid (parseG l = (gx0, 7)) := by unfold Hid; rw [hG'.out]; exact parse_bad3 (.inr (.inl hpn))
              clear hpn
              go_wp2_with (go_at_call 19; refine (hA.out _).mono ?_; rintro e w2 ⟨rfl, hb⟩; have hbw2 := via hbw hb; replace D2 := bk_keep hb D2; replace C2 := bk4 D2; replace q0 := cell_below q0 hb; replace q1 := cell_below q1 hb; replace q2 := cell_below q2 hb; replace hbbw := Nat.lt_of_lt_of_le hbbw hb.size)
              refine region_all w (by kernel_rfl) (by kernel_rfl) (by go_grown) ?_
              intro hgc hbx
              repeat (go_big_quiet_step ((first | (go_at_call 17; with_reducible exact Grew.call (hI.out _ (hbx.out _))) | (go_at_call 20; with_reducible exact Grew.call_same (hT.out _)))))
              refine wpQuiet_nil ?_
              intro wx hb_wx hw_wx hs_wx
              clear hgc hbx
              replace C2 := bk4 (bk_keep hb_wx D2)
              go_wp2
              refine bodyPost_ret (v := gval (gx0, 7)) ?_ rfl ⟨by rw [hbad.out], ?_⟩
              · simp [results, Tryz.results6, go_sem, C2, gval, gx0]
                rfl
              · go_grown
          · have hpn : parseN b1 = none := (parse_way b1).2 (fun n hn => hex ⟨n, hn⟩)
            have hbad : Hid (parseG l = (gx0, 7)) := by unfold Hid; rw [hG'.out]; exact parse_bad3 (.inr (.inl hpn))
            have hA := Lib.hid fun W (hb : Below w.heap.size w W) => atoi_bad b1 W l1 (fun n hn => hex ⟨n, hn⟩) (ht.below hb)
            clear hpn hex
            go_wp2_with (go_at_call 19; refine (hA.out _ (by go_grown)).mono ?_; rintro e w2 ⟨⟨m, N, rfl⟩, hb⟩; have hbw2 := via hbw hb; replace D2 := bk_keep hb D2; replace C2 := bk4 D2)
            refine region_all w (by kernel_rfl) (by kernel_rfl) (by go_grown) ?_
            intro hgc hbx
            repeat (go_big_quiet_step (fail))
            refine wpQuiet_nil ?_
            intro wx hb_wx hw_wx hs_wx
            clear hgc hbx
            replace C2 := bk4 (bk_keep hb_wx D2)
            go_wp2
            refine bodyPost_ret (v := gval (gx0, 7)) ?_ rfl ⟨by rw [hbad.out], ?_⟩
            · simp [results, Tryz.results6, go_sem, C2, gval, gx0]
              rfl
            · go_grown
        · have DX : wr.heap[X]? = some (.cells #[.string (bs a), .int .i64 (nv b0), .int .i64 (nv b1), .int .i64 (0)] 25 (0, 0)) := DX0
          clear DX0
          have CX := bk4 DX
          by_cases hex : ∃ n, Lib.atoiAll b2 = .ok n
          · obtain ⟨n, hn⟩ := hex
            have hbd := atoi_bd hn
            have hA := Lib.hid fun W => atoi_ok b2 n W l2 hn
            have hI := Lib.hid fun W (hb : Below w.heap.size w W) => itoa_any n W hbd.1 hbd.2 (ht.below hb)
            have hT := Lib.hid fun W => trim_any b2 W
            have way := Lib.hid ((parse_way b2).1 n hn)
            obtain ⟨t, hte⟩ : ∃ t, Lib.itoa n = t := ⟨_, rfl⟩
            rw [hte] at hI way
            clear hn hbd hte
            have hlb := l2
            by_cases e1 : t = b2
            · have f1 : ((bs t).toList == (bs b2).toList) = true := by rw [bs_eqL, e1]; simp
              have f2 : ((bs t).toList != (bs b2).toList) = false := by rw [bne, f1]; rfl
              by_cases e2 : 9 < (magL b2).length
              · have f3 : 9 < ((bs (magL b2)).size : Int) := by rw [bs_size]; omega
                have f4 : decide (9 < ((bs (magL b2)).size : Int)) = true := by simpa using f3
                have f5 : decide (9 < (bs (magL b2)).size) = true := by rw [bs_size]; simpa using e2
                have hpn : parseN b2 = none := way.out.2 (fun h => by omega)
                clear e1 e2
                have hbad : Hid (parseG l = (gx0, 7)) := by unfold Hid; rw [hG'.out]; exact parse_bad3 (.inr (.inr hpn))
                clear hpn
                go_wp2_with (go_at_call 19; refine (hA.out _).mono ?_; rintro e w2 ⟨rfl, hb⟩; have hbw2 := via hbw hb; replace D2 := bk_keep hb D2; replace C2 := bk4 D2; replace q0 := cell_below q0 hb; replace q1 := cell_below q1 hb; replace q2 := cell_below q2 hb; replace hbbw := Nat.lt_of_lt_of_le hbbw hb.size)
                refine region_all w (by kernel_rfl) (by kernel_rfl) (by go_grown) ?_
                intro hgc hbx
                repeat (go_big_quiet_step ((first | (go_at_call 17; with_reducible exact Grew.call (hI.out _ (hbx.out _))) | (go_at_call 20; with_reducible exact Grew.call_same (hT.out _)))))
                refine wpQuiet_nil ?_
                intro wx hb_wx hw_wx hs_wx
                clear hgc hbx
                replace C2 := bk4 (bk_keep hb_wx D2)
                go_wp2
                refine bodyPost_ret (v := gval (gx0, 7)) ?_ rfl ⟨by rw [hbad.out], ?_⟩
                · simp [results, Tryz.results6, go_sem, C2, gval, gx0]
                  rfl
                · go_grown
              · have f3 : ¬ 9 < ((bs (magL b2)).size : Int) := by rw [bs_size]; omega
                have f4 : decide (9 < ((bs (magL b2)).size : Int)) = false := by simpa using f3
                have f5 : decide (9 < (bs (magL b2)).size) = false := by rw [bs_size]; simpa using e2
                have hpn : parseN b2 = some n := way.out.1 ⟨e1, by omega⟩
                have hnv : Hid (nv b2 = n) := by unfold Hid nv; rw [hpn]; rfl
                have hpn' : Hid (parseN b2 ≠ none) := by unfold Hid; rw [hpn]; simp
                clear e1 e2 hpn
                go_wp2_with (go_at_call 19; refine (hA.out _).mono ?_; rintro e w2 ⟨rfl, hb⟩; have hbw2 := via hbw hb; replace D2 := bk_keep hb D2; replace DX := bk_keep hb DX; replace C2 := bk4 D2; replace CX := bk4 DX; replace q0 := cell_below q0 hb; replace q1 := cell_below q1 hb; replace q2 := cell_below q2 hb; replace hbbw := Nat.lt_of_lt_of_le hbbw hb.size)
                refine region_all w (by kernel_rfl) (by kernel_rfl) (by go_grown) ?_
                intro hgc hbx
                repeat (go_big_quiet_step ((first | (go_at_call 17; with_reducible exact Grew.call (hI.out _ (hbx.out _))) | (go_at_call 20; with_reducible exact Grew.call_same (hT.out _)))))
                refine wpQuiet_nil ?_
                intro wx hb_wx hw_wx hs_wx
                clear hgc hbx
                replace D2 := bk_keep hb_wx D2
                replace DX := bk_keep hb_wx DX
                replace C2 := bk4 D2
                replace CX := bk4 DX
                have hXx : X < wx.heap.size := bk_size DX
                have hb1' : Below X w1 wx := (hb1.trans (hb.mono (by omega))).trans (hb_wx.mono (by have := hb.size; omega))
                go_wp2
                go_roundw
                case rel => exact ⟨2 + 1, by omega, by go_num, hw_wx.setCell (by dsimp only; omega) _, hb1'.setCell (Nat.le_refl _) _, bk_set D2 (by dsimp only; omega) _, bk_here DX _ (by rw [← hnv.out]; rfl), by have := hok.out; have := hpn'.out; unfold Hid; refine ⟨?_, ?_, ?_⟩ <;> intro _ <;> first | assumption | (simp_all; done) | omega⟩
                case measure => simp [intOf]
            · have f1 : ((bs t).toList == (bs b2).toList) = false := by rw [bs_eqL]; simpa using e1
              have f2 : ((bs t).toList != (bs b2).toList) = true := by rw [bne, f1]; rfl
              have hpn : parseN b2 = none := way.out.2 (fun h => e1 h.1)
              clear e1
              have hbad : Hid (parseG l = (gx0, 7)) := by unfold Hid; rw [hG'.out]; exact parse_bad3 (.inr (.inr hpn))
              clear hpn
              go_wp2_with (go_at_call 19; refine (hA.out _).mono ?_; rintro e w2 ⟨rfl, hb⟩; have hbw2 := via hbw hb; replace D2 := bk_keep hb D2; replace C2 := bk4 D2; replace q0 := cell_below q0 hb; replace q1 := cell_below q1 hb; replace q2 := cell_below q2 hb; replace hbbw := Nat.lt_of_lt_of_le hbbw hb.size)
              refine region_all w (by kernel_rfl) (by kernel_rfl) (by go_grown) ?_
              intro hgc hbx
              repeat (go_big_quiet_step ((first | (go_at_call 17; with_reducible exact Grew.call (hI.out _ (hbx.out _))) | (go_at_call 20; with_reducible exact Grew.call_same (hT.out _)))))
              refine wpQuiet_nil ?_
              intro wx hb_wx hw_wx hs_wx
              clear hgc hbx
              replace C2 := bk4 (bk_keep hb_wx D2)
              go_wp2
              refine bodyPost_ret (v := gval (gx0, 7)) ?_ rfl ⟨by rw [hbad.out], ?_⟩
              · simp [results, Tryz.results6, go_sem, C2, gval, gx0]
                rfl
              · go_grown
          · have hpn : parseN b2 = none := (parse_way b2).2 (fun n hn => hex ⟨n, hn⟩)
            have hbad : Hid (parseG l = (gx0, 7)) := by unfold Hid; rw [hG'.out]; exact parse_bad3 (.inr (.inr hpn))
            have hA := Lib.hid fun W (hb : Below w.heap.size w W) => atoi_bad b2 W l2 (fun n hn => hex ⟨n, hn⟩) (ht.below hb)
            clear hpn hex
            go_wp2_with (go_at_call 19; refine (hA.out _ (by go_grown)).mono ?_; rintro e w2 ⟨⟨m, N, rfl⟩, hb⟩; have hbw2 := via hbw hb; replace D2 := bk_keep hb D2; replace C2 := bk4 D2)
            refine region_all w (by kernel_rfl) (by kernel_rfl) (by go_grown) ?_
            intro hgc hbx
            repeat (go_big_quiet_step (fail))
            refine wpQuiet_nil ?_
            intro wx hb_wx hw_wx hs_wx
            clear hgc hbx
            replace C2 := bk4 (bk_keep hb_wx D2)
            go_wp2
            refine bodyPost_ret (v := gval (gx0, 7)) ?_ rfl ⟨by rw [hbad.out], ?_⟩
            · simp [results, Tryz.results6, go_sem, C2, gval, gx0]
              rfl
            · go_grown
        · have DX : wr.heap[X]? = some (.cells #[.string (bs a), .int .i64 (nv b0), .int .i64 (nv b1), .int .i64 (nv b2)] 25 (0, 0)) := DX0
          clear DX0
          have CX := bk4 DX
          have hGG := hG'.out
          rw [parse_good3 (hok.out.1 (by omega)) (hok.out.2.1 (by omega)) (hok.out.2.2 (by omega))] at hGG
          have hE := Lib.hid fun W => gaugingErr_any (bs a) (nv b0) (nv b1) (nv b2) W (by rw [bs_size]; have := hcl.out a (by simp); omega)
          rw [bs_data] at hE
          generalize nv b0 = x at *
          generalize nv b1 = y at *
          generalize nv b2 = z at *
          obtain ⟨E, hEe⟩ : ∃ E, gaugingE a x y z = E := ⟨_, rfl⟩
          rw [hEe] at hE hGG
          by_cases hz : E = 0
          · rw [if_pos hz] at hGG
            have hG2 := Lib.hid hGG
            have hne : (E != 0) = false := by simp [hz]
            clear hGG hz hEe
            go_wp2_with (go_at_call 21; refine (hE.out _).mono ?_; rintro e w2 ⟨rfl, hb⟩; have hbw2 := via hbw hb; replace D2 := bk_keep hb D2; replace DX := bk_keep hb DX; replace C2 := bk4 D2; replace CX := bk4 DX)
            refine bodyPost_ret (v := gval (⟨a, x, y, z⟩, 0)) ?_ rfl ⟨by rw [hG2.out], ?_⟩
            · simp [results, Tryz.results6, go_sem, C2, gval]
            · go_grown
          · rw [if_neg hz] at hGG
            have hG2 := Lib.hid hGG
            have hne : (E != 0) = true := by simpa using hz
            clear hGG hz hEe
            go_wp2_with (go_at_call 21; refine (hE.out _).mono ?_; rintro e w2 ⟨rfl, hb⟩; have hbw2 := via hbw hb; replace D2 := bk_keep hb D2; replace DX := bk_keep hb DX; replace C2 := bk4 D2; replace CX := bk4 DX)
            refine bodyPost_ret (v := gval (gx0, E)) ?_ rfl ⟨by rw [hG2.out], ?_⟩
            · simp [results, Tryz.results6, go_sem, C2, gval, gx0]
              rfl
            · go_grown
  · rw [parseG_short h4]
    have h4I : (((cutL l).length : Int) != 4) = true := by rw [bne_iff_ne]; omega
    go_enter Tryz.func6, Tryz.ntmps6
    go_wp2_with (go_at_call 18; refine (hSp.out _ (ht.below (by go_grown))).mono ?_; rintro e w1 ⟨⟨A, c, rfl, hat⟩, hb⟩; have hbw := via (by go_grown : Below w.heap.size w _) hb; have B2 := bk_keep hb (bk_new _ _ rfl); have C2 := bk4 B2)
    refine bodyPost_ret (v := gval (gx0, 7)) ?_ rfl ⟨rfl, ?_⟩
    · simp [results, Tryz.results6, go_sem, C2, gval, gx0]
      rfl
    · go_grown
end Go.Proofs
