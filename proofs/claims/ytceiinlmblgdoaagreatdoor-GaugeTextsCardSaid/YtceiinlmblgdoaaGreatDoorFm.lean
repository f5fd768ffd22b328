import Derived.Test.YtceiinlmblgdoaaGreatDoorDe
import Derived.Test.YtceiinlmblgdoaaGreatDoorSh
import Derived.Lib.AppendIntMem
set_option linter.unusedSimpArgs false
set_option linter.unusedVariables false
namespace Go.Proofs
open Go.RowKit

/-- The library's own variables, as far as the texts want them. -/
structure Tabs (w : World) : Prop where
  tab : Lib.TabIs Tryz.prog w "internal/strconv.uint64pow10" .u64 Lib.pow10Tab
  syn : ∃ ev, w.cell? ⟨0, 0, none⟩ = some ev ∧ (ev = .nilIface ∨ ∃ te pe, ev = .iface te pe)
  rng : ∃ ev, w.cell? ⟨1, 0, none⟩ = some ev ∧ (ev = .nilIface ∨ ∃ te pe, ev = .iface te pe)
  mx : ∃ m, w.cell? ⟨2, 0, none⟩ = some (.int .i64 m)
theorem cell_below {w w' : World} {p : Addr} {v : Value} (h : w.cell? p = some v) (hb : Below w.heap.size w w') : w'.cell? p = some v := (hb.cell (World.block_lt_of_cell? _ _ h)).trans h
theorem Tabs.below {w w' : World} (h : Tabs w) (hb : Below w.heap.size w w') : Tabs w' := by
  obtain ⟨h1, ⟨e2, h2, k2⟩, ⟨e3, h3, k3⟩, ⟨m, h4⟩⟩ := h
  exact ⟨Lib.tabBelow_of_tabIs h1 w' hb, ⟨e2, cell_below h2 hb, k2⟩, ⟨e3, cell_below h3 hb, k3⟩, ⟨m, cell_below h4 hb⟩⟩
theorem itoa_any (n : Int) (w : World) (h0 : -9223372036854775808 ≤ n) (h1 : n ≤ 9223372036854775807) (ht : Tabs w) :
    Calls Tryz.prog 17 #[.int .i64 n] w fun e w' => e = .returned (.string (bs (Lib.itoa n))) ∧ Below w.heap.size w w' :=
  (Tryz.strconv_Itoa n h0 h1 w ht.tab).mono fun e w' ⟨he, k, os, hw⟩ => ⟨he, hw ▸ Lib.below_grow w.heap.size w (Nat.le_refl _) k os⟩
/-- The text of a gauging. -/
def fmtL (c : List UInt8) (d lo hi : Int) : List UInt8 := c ++ 32 :: (Lib.itoa d ++ 32 :: (Lib.itoa lo ++ 32 :: Lib.itoa hi))
theorem join4 (a b c d : List UInt8) : Lib.join [a, b, c, d] [32] = a ++ 32 :: (b ++ 32 :: (c ++ 32 :: d)) := by
  rw [Lib.join_cons]
  simp [Lib.joinTail]
theorem itoa_len {n : Int} (h0 : -9223372036854775808 ≤ n) (h1 : n ≤ 9223372036854775807) : (Lib.itoa n).length ≤ 20 := by
  by_cases hz : n = 0
  · rw [hz, itoa_zero]; decide
  by_cases hn : n < 0
  · obtain ⟨u, rfl⟩ : ∃ u : Nat, n = -(u : Int) := ⟨n.natAbs, by omega⟩
    rw [itoa_neg u (by omega)]
    have := digs_len (u := u) (by omega)
    simp; omega
  · obtain ⟨u, rfl⟩ : ∃ u : Nat, n = (u : Int) := ⟨n.natAbs, by omega⟩
    rw [itoa_pos u (by omega)]
    have := digs_len (u := u) (by omega)
    omega
theorem bs_data (l : List UInt8) : (bs l).data.toList = l := by simp [bs]
theorem bs_eta (s : ByteArray) : bs s.data.toList = s := by cases s; simp [bs]
theorem fmt_len {c : List UInt8} {d lo hi : Int} (hc : c.length ≤ 20) (hd : -9223372036854775808 ≤ d ∧ d ≤ 9223372036854775807) (hl : -9223372036854775808 ≤ lo ∧ lo ≤ 9223372036854775807) (hh : -9223372036854775808 ≤ hi ∧ hi ≤ 9223372036854775807) : (fmtL c d lo hi).length ≤ 83 := by
  have h1 := itoa_len hd.1 hd.2
  have h2 := itoa_len hl.1 hl.2
  have h3 := itoa_len hh.1 hh.2
  unfold fmtL
  simp only [List.length_append, List.length_cons]
  omega
set_option maxRecDepth 100000 in
set_option maxHeartbeats 4000000 in
theorem format_any (c : List UInt8) (d lo hi : Int) (w : World) (hc : c.length ≤ 20) (hd : -9223372036854775808 ≤ d ∧ d ≤ 9223372036854775807) (hl : -9223372036854775808 ≤ lo ∧ lo ≤ 9223372036854775807) (hh : -9223372036854775808 ≤ hi ∧ hi ≤ 9223372036854775807) (ht : Tabs w) :
    Calls Tryz.prog 5 #[.agg #[.string (bs c), .int .i64 d, .int .i64 lo, .int .i64 hi]] w fun e w' => e = .returned (.string (bs (fmtL c d lo hi))) ∧ Below w.heap.size w w' := by
  have hlen := fmt_len hc hd hl hh
  have hI1 := Lib.hid fun W (hb : Below w.heap.size w W) => itoa_any d W hd.1 hd.2 (ht.below hb)
  have hI2 := Lib.hid fun W (hb : Below w.heap.size w W) => itoa_any lo W hl.1 hl.2 (ht.below hb)
  have hI3 := Lib.hid fun W (hb : Below w.heap.size w W) => itoa_any hi W hh.1 hh.2 (ht.below hb)
  have hj4 := join4 c (Lib.itoa d) (Lib.itoa lo) (Lib.itoa hi)
  have hJ := Lib.hid fun x : World => Tryz.strings_Join x.heap.size 0 4 [bs c, bs (Lib.itoa d), bs (Lib.itoa lo), bs (Lib.itoa hi)] ⟨#[32]⟩ (x.alloc (.cells #[.string (bs c), .string (bs (Lib.itoa d)), .string (bs (Lib.itoa lo)), .string (bs (Lib.itoa hi))] 9))
    (fun j y hj => by
      have := cells_new x [.string (bs c), .string (bs (Lib.itoa d)), .string (bs (Lib.itoa lo)), .string (bs (Lib.itoa hi))] 9 j (.string y) (by
        match j, hj with
        | 0, rfl => rfl
        | 1, rfl => rfl
        | 2, rfl => rfl
        | 3, rfl => rfl)
      rw [World.cell?_alloc_at _ _ _ _ rfl]
      match j, hj with
      | 0, rfl => rfl
      | 1, rfl => rfl
      | 2, rfl => rfl
      | 3, rfl => rfl)
    (by simp) (by simp) (by simp) (by simp only [List.map_cons, List.map_nil, bs_data]; rw [hj4]; unfold fmtL at hlen; omega)
  simp only [List.map_cons, List.map_nil, bs_data] at hJ
  rw [hj4] at hJ
  unfold fmtL
  generalize Lib.itoa d = s1 at *
  generalize Lib.itoa lo = s2 at *
  generalize Lib.itoa hi = s3 at *
  clear hj4 hlen ht
  go_enter Tryz.func5, Tryz.ntmps5
  go_wp2
  refine region_in w 13 (by kernel_rfl) (by kernel_rfl) (by go_grown) ?_
  intro hgc hbx
  simp only [List.take_succ_cons, List.take_zero, List.drop_succ_cons, List.drop_zero]
  repeat (go_big_quiet_step ((go_at_call 17; first | with_reducible exact Grew.call (hI1.out _ (hbx.out _)) | with_reducible exact Grew.call (hI2.out _ (hbx.out _)) | with_reducible exact Grew.call (hI3.out _ (hbx.out _)))))
  refine wpQuiet_nil ?_
  intro wb hb_wb hw_wb hs_wb
  clear hgc hbx
  go_wp2_with (go_at_call 16; refine (hJ.out _).mono ?_; rintro e w2 ⟨rfl, hb⟩)
  go_ret
  exact ⟨rfl, via (via_alloc hw_wb _) hb⟩
set_option maxRecDepth 100000 in
set_option maxHeartbeats 4000000 in
theorem refFormat_any (c : List UInt8) (d lo hi : Int) (w : World) (hc : c.length ≤ 20) (hd : -9223372036854775808 ≤ d ∧ d ≤ 9223372036854775807) (hl : -9223372036854775808 ≤ lo ∧ lo ≤ 9223372036854775807) (hh : -9223372036854775808 ≤ hi ∧ hi ≤ 9223372036854775807) :
    Calls Tryz.prog 8 #[.agg #[.string (bs c), .int .i64 d, .int .i64 lo, .int .i64 hi]] w fun e w' => e = .returned (.string (bs (fmtL c d lo hi))) ∧ Below w.heap.size w w' := by
  have h1 := itoa_len hd.1 hd.2
  have h2 := itoa_len hl.1 hl.2
  have h3 := itoa_len hh.1 hh.2
  have hI1 := Lib.hid fun W => decimal_any d W hd.1 hd.2
  have hI2 := Lib.hid fun W => decimal_any lo W hl.1 hl.2
  have hI3 := Lib.hid fun W => decimal_any hi W hh.1 hh.2
  unfold fmtL
  generalize Lib.itoa d = s1 at *
  generalize Lib.itoa lo = s2 at *
  generalize Lib.itoa hi = s3 at *
  have hbl : (⟨#[32]⟩ : ByteArray) = bs [32] := rfl
  have ha := bs_append
  have z0 : ∀ a b : List UInt8, a.length + b.length ≤ 1000 → (9223372036854775807 < (bs a).size + (bs b).size) = False := fun a b h => by rw [bs_size, bs_size]; simp; omega
  have z1 := z0 c [32] (by simp; omega)
  have z2 := z0 (c ++ [32]) s1 (by simp; omega)
  have z3 := z0 (c ++ 32 :: s1) [32] (by simp; omega)
  have z4 := z0 (c ++ 32 :: (s1 ++ [32])) s2 (by simp; omega)
  have z5 := z0 (c ++ 32 :: (s1 ++ 32 :: s2)) [32] (by simp; omega)
  have z6 := z0 (c ++ 32 :: (s1 ++ 32 :: (s2 ++ [32]))) s3 (by simp; omega)
  clear z0
  go_enter Tryz.func8, Tryz.ntmps8
  go_wp2
  refine region_all w (by kernel_rfl) (by kernel_rfl) (by go_grown) ?_
  intro hgc hbx
  repeat (go_big_quiet_step ((go_at_call 24; first | with_reducible exact Grew.call (hI1.out _) | with_reducible exact Grew.call (hI2.out _) | with_reducible exact Grew.call (hI3.out _))))
  refine wpQuiet_nil ?_
  intro wb hb_wb hw_wb hs_wb
  clear hgc hbx
  go_wp2
  go_ret
  exact ⟨rfl, hw_wb⟩
end Go.Proofs
