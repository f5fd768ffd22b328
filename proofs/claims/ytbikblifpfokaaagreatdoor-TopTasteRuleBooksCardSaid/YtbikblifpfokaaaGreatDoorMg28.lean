import Derived.Test.YtbikblifpfokaaaGreatDoorMg26
import Derived.Test.YtbikblifpfokaaaGreatDoorMg16
import Derived.Test.YtbikblifpfokaaaGreatDoorMg27
import Derived.Test.YtbikblifpfokaaaGreatDoorMg17
import Derived.Test.YtbikblifpfokaaaGreatDoorMg18
import Derived.Test.YtbikblifpfokaaaGreatDoorMg23
set_option linter.unusedSimpArgs false
set_option linter.unusedVariables false
namespace Go.Proofs
open Go.RowKit
attribute [local go_sem] Oper.semAt_some

/-! strings.SplitSeq over signs with commas between. -/
def bs (l : List UInt8) : ByteArray := ⟨l.toArray⟩
theorem bs_list (l : List UInt8) : (bs l).data.toList = l := rfl
theorem bs_size (l : List UInt8) : (bs l).size = l.length := rfl
theorem bs_ext (l : List UInt8) (i j : Nat) : (bs l).extract i j = bs ((l.take j).drop i) := by
  unfold bs
  apply ByteArray.ext
  rw [ByteArray.data_extract]
  apply Array.ext'
  rw [Array.toList_extract]
  simp [List.extract_eq_take_drop, List.drop_take]
def txL : List UInt8 → List UInt8
  | [] => []
  | [d] => [d]
  | d :: e :: ds => d :: 44 :: txL (e :: ds)
def fr (d : UInt8) : ByteArray := bs [d]
theorem ix_one (d : UInt8) (h : d ≠ 44) : Lib.indexByte [d] 44 = -1 := by
  unfold Lib.indexByte
  rw [if_neg (by simpa using h)]
  rfl
theorem ix_more (d : UInt8) (l : List UInt8) (h : d ≠ 44) : Lib.indexByte (d :: 44 :: l) 44 = 1 := by
  unfold Lib.indexByte
  rw [if_neg (by simpa using h)]
  unfold Lib.indexByte
  simp
theorem run_cut_head (s : ByteArray) (k : Nat) (W : World) (hk : k ≤ s.size) : (Instr.slice 9 (.string s) none (some (.int .i64 k)) none).run Tryz.prog W = .ok (.string (s.extract 0 k)) W := by
  have h1 : (0 : Int) ≤ (k : Int) ∧ (k : Int) ≤ (s.size : Int) := by omega
  simp [Instr.slice, Instr.sliceBounds, Instr.sliceBound, go_sem, Tryz.underlying9, h1]
  intro h
  omega
theorem run_cut_tail (s : ByteArray) (k : Nat) (W : World) (hk : k ≤ s.size) : (Instr.slice 9 (.string s) (some (.int .i64 k)) none none).run Tryz.prog W = .ok (.string (s.extract k s.size)) W := by
  have h1 : (0 : Int) ≤ (k : Int) ∧ (k : Int) ≤ (s.size : Int) := by omega
  simp [Instr.slice, Instr.sliceBounds, Instr.sliceBound, go_sem, Tryz.underlying9, h1]
  intro h
  omega
def encS (x : ByteArray) : Array Value := #[.string x]
structure SpI (B2 : Nat) (ds : List UInt8) (M : Nat → Prop) (w : World) (J : List ByteArray → (Nat → Prop) → World → Prop) (m : Nat) (dn rest : List UInt8) (T : Nat → Prop) (f : Nat) (wr : World) : Prop where
  all : dn ++ rest = ds
  ne : rest ≠ []
  len : rest.length = f
  at2 : wr.heap[B2]? = some (.cells #[.string (bs (txL rest))] 9 (0, 0))
  jj : J (dn.map fr) T wr
  tt : ∀ r, T r → m ≤ r ∧ r < wr.heap.size
  lie : Lie (fun k => M k ∨ k = B2) w wr
  sz : m ≤ wr.heap.size
set_option maxRecDepth 100000 in
set_option maxHeartbeats 4000000 in
theorem split_stops (n : Nat) (ds : List UInt8) (h0 : ds ≠ []) (h44 : ∀ d ∈ ds, d ≠ 44) (hl : ds.length ≤ 1000) (B1 B2 B3 : Nat) (M : Nat → Prop) (w : World)
    (h1 : w.heap[B1]? = some (.cells #[.string ⟨#[44]⟩] 9 (0, 0))) (h2 : w.heap[B2]? = some (.cells #[.string (bs (txL ds))] 9 (0, 0))) (h3 : w.heap[B3]? = some (.cells #[.int .i64 0] 3 (0, 0))) (hM1 : ¬ M B1) (hM2 : ¬ M B2) (hM3 : ¬ M B3) (h12 : B1 ≠ B2) (h32 : B3 ≠ B2) (hMw : ∀ k, M k → k < w.heap.size) :
    StopsO Fence.wide n Tryz.prog 99 #[.pointer (some ⟨B1, 0, none⟩), .pointer (some ⟨B2, 0, none⟩), .pointer (some ⟨B3, 0, none⟩)] encS (fun _ _ => False) (fun k => k = B2) M (fun pre x W => pre ++ [x] <+: ds.map fr)
      (fun xs => xs = ds.map fr) (fun pre => pre <+: ds.map fr) ds.length w := by
  intro l J Jx W hW hlw hlW hJ hJx hY hJ0
  have hws := hW.size
  have hB1 := bk_size h1
  have hB2 := bk_size h2
  have hB3 := bk_size h3
  obtain ⟨SX, hSX⟩ : ∃ SX : Nat → World → Prop, SX = fun f wr => ∃ dn rest T, SpI B2 ds M w J W.heap.size dn rest T f wr := ⟨_, rfl⟩
  have hSX1 : Hid (∀ f wr, SX f wr → ∃ dn rest T, SpI B2 ds M w J W.heap.size dn rest T f wr) := by rw [hSX]; exact fun _ _ h => h
  have hSX2 : Hid (∀ f wr, (∃ dn rest T, SpI B2 ds M w J W.heap.size dn rest T f wr) → SX f wr) := by rw [hSX]; exact fun _ _ h => h
  have hSX0 : Hid (SX ds.length W) := hSX2.out _ _ ⟨[], ds, fun _ => False, rfl, h0, rfl, (by rw [hW.block B2 hB2]; exact h2), hJ0, fun r h => h.elim, Lie.of_below _ hW, Nat.le_refl _⟩
  have hY' := Lib.hid hY
  have hJ' := Lib.hid hJ
  have hMl := Lib.hid hMw
  have hM1' := Lib.hid hM1
  have hM2' := Lib.hid hM2
  have hM3' := Lib.hid hM3
  have h44' := Lib.hid h44
  have hI := Lib.hid fun s W => Tryz.strings_Index_one s 44 W
  have K1 := bk1 (bk_keep hW h1)
  clear hSX hY hJ hJx hJ0 hMw hM1 hM2 hM3 h44
  refine callsIn_of_wp Tryz.func99 rfl trivial ?_
  simp only [Tryz.ntmps99, List.size_toArray, List.length_cons, List.length_nil, Nat.reduceAdd, Nat.reduceSub, Array.replicate_succ, Array.replicate_zero, List.push_toArray, List.append_toArray, List.nil_append, List.cons_append]
  gi_wp2_with fail
  gi_loopw [7] (fun _ wr => ∃ f, SX f wr) (fun _ wr => leastOf fun f => SX f wr)
  case atStart => exact ⟨_, hSX0.out⟩
  case round =>
    clear hSX0 K1
    obtain ⟨f, hf⟩ : ∃ f, (leastOf fun f => SX f wr) = f := ⟨_, rfl⟩
    have hls := (leastOf_spec hrel).1
    rw [hf] at hls
    have hf' := Lib.hid hf
    clear hf hrel
    obtain ⟨dn, rest, T, hS⟩ := hSX1.out _ _ hls
    clear hls
    have hlie := hS.lie
    have a1 : wr.heap[B1]? = some (.cells #[.string ⟨#[44]⟩] 9 (0, 0)) := by rw [hlie.same B1 hB1 (by rintro (h | h); exact hM1'.out h; exact h12 h)]; exact h1
    have a3 : wr.heap[B3]? = some (.cells #[.int .i64 0] 3 (0, 0)) := by rw [hlie.same B3 hB3 (by rintro (h | h); exact hM3'.out h; exact h32 h)]; exact h3
    have c1 := bk1 a1
    have c2 := bk1 hS.at2
    have c3 := bk1 a3
    have s1 := bk_size a1
    have s2 := bk_size hS.at2
    have s3 := bk_size a3
    have hSh := Lib.hid hS
    cases hrest : rest with
    | nil => exact (hS.ne hrest).elim
    | cons d rs =>
      subst hrest
      have hd44 : d ≠ 44 := h44'.out d (by rw [← hS.all]; simp)
      cases rs with
      | nil =>
        have hix : Lib.indexByte (bs (txL [d])).data.toList 44 = -1 := ix_one d hd44
        have hI1 := Lib.hid (hI.out (bs (txL [d])) wr)
        rw [hix] at hI1
        obtain ⟨fn, tm, asg, bod, hy, hR⟩ := hY'.out (dn.map fr) T (fr d) wr hS.jj hS.tt (fun _ _ r h => h.elim) (by
          rw [List.length_map, ← hS.all]
          simp) (by
          rw [← hS.all, List.map_append]
          exact List.prefix_rfl)
        have hy' : (Instr.yield l #[.string (bs (txL [d]))]).run Tryz.prog wr = .ok (.round l fn tm asg bod) wr := hy
        have hall : Hid (dn.map fr ++ [fr d] = ds.map fr) := by
          have h9 := hS.all
          unfold Hid
          rw [← h9, List.map_append]
          rfl
        have hR' := Lib.hid hR
        clear hS hlie hix a1 a3 hy hR
        generalize bs (txL [d]) = S at *
        gi_wp2_with fail
        refine ⟨trivial, fun h => (by cases h), (callsIn_wide.2 hI1.out).mono ?_⟩
        rintro e w4 ⟨rfl, rfl⟩
        gi_wp2_with fail
        refine ⟨fun h => (by cases h), hR'.out.mono ?_⟩
        rintro e w4 ⟨T', t1, t2, hli, (⟨rfl, hJ4⟩ | ⟨rfl, hJ4⟩)⟩
        · rw [hall.out] at hJ4
          have hJ5' := Lib.hid hJ4
          clear hJ4 hli
          gi_wp2
          go_end0
          exact ⟨⟨_, rfl⟩, .inl ⟨_, _, rfl, hJ5'.out⟩⟩
        · have hJ5' := Lib.hid hJ4
          clear hJ4 hli
          gi_wp2
          go_end0
          exact ⟨⟨_, rfl⟩, .inr ⟨_, _, (by rw [hall.out]; exact List.prefix_rfl), hJ5'.out⟩⟩
      | cons e rs =>
        have hix : Lib.indexByte (bs (txL (d :: e :: rs))).data.toList 44 = 1 := ix_more d _ hd44
        have hI1 := Lib.hid (hI.out (bs (txL (d :: e :: rs))) wr)
        rw [hix] at hI1
        obtain ⟨fn, tm, asg, bod, hy, hR⟩ := hY'.out (dn.map fr) T (fr d) wr hS.jj hS.tt (fun _ _ r h => h.elim) (by
          rw [List.length_map, ← hS.all]
          simp) (by
          rw [← hS.all, List.map_append]
          exact ⟨(e :: rs).map fr, by simp⟩)
        have hx1 : (bs (txL (d :: e :: rs))).extract 0 1 = fr d := by
          rw [bs_ext]
          rfl
        have hsz : (bs (txL (d :: e :: rs))).size = (txL (e :: rs)).length + 2 := rfl
        have hx2 : (bs (txL (d :: e :: rs))).extract 2 ((txL (e :: rs)).length + 2) = bs (txL (e :: rs)) := by
          rw [bs_ext]
          show bs (((d :: 44 :: txL (e :: rs)).take ((txL (e :: rs)).length + 2)).drop 2) = _
          rw [List.take_of_length_le (by simp)]
          rfl
        have hy' : (Instr.yield l #[.string (fr d)]).run Tryz.prog wr = .ok (.round l fn tm asg bod) wr := hy
        have hR' := Lib.hid hR
        have hsl1 : (Instr.slice 9 (.string (bs (txL (d :: e :: rs)))) none (some (.int .i64 1)) none).run Tryz.prog wr = .ok (.string (fr d)) wr := by
          have := run_cut_head (bs (txL (d :: e :: rs))) 1 wr (by rw [hsz]; omega)
          rwa [hx1] at this
        have hsl2 : Hid (∀ W, (Instr.slice 9 (.string (bs (txL (d :: e :: rs)))) (some (.int .i64 2)) none none).run Tryz.prog W = .ok (.string (bs (txL (e :: rs)))) W) := fun W => by
          have := run_cut_tail (bs (txL (d :: e :: rs))) 2 W (by rw [hsz]; omega)
          rwa [hsz, hx2] at this
        have a1' := Lib.hid a1
        clear hS hlie hix a1 a3 hy hR hx1 hx2 hsz
        gi_wp2_with fail
        refine ⟨trivial, fun h => (by cases h), (callsIn_wide.2 hI1.out).mono ?_⟩
        rintro e w4 ⟨rfl, rfl⟩
        gi_wp2_with fail
        refine ⟨fun h => (by cases h), hR'.out.mono ?_⟩
        rintro e' w5 ⟨T', t1, t2, hli, (⟨rfl, hJ4⟩ | ⟨rfl, hJ4⟩)⟩
        · have hnx : SpI B2 ds M w J W.heap.size (dn ++ [d]) (e :: rs) T' (rs.length + 1) (w5.setCell ⟨B2, 0, none⟩ (.string (bs (txL (e :: rs))))) := by
            have hB2w : w5.heap[B2]? = some (.cells #[.string (bs (txL (d :: e :: rs)))] 9 (0, 0)) := by
              rw [hli.same B2 s2 (by
                rintro (h | h | h)
                · exact hM2'.out h
                · have := (hSh.out.tt _ h).1; omega
                · omega)]
              exact hSh.out.at2
            have hJ6 := hJ'.out _ _ w5 (w5.setCell ⟨B2, 0, none⟩ (.string (bs (txL (e :: rs))))) (some B2) hJ4 ⟨rfl, rfl, rfl, by simp, fun j _ hj => Below.heap_setCell w5 _ _ j (fun h => hj (by rw [h]))⟩ (fun r hr => by
              cases hr
              exact ⟨.inr rfl, fun h => by
                rcases t1 _ h with h | h
                · have := (hSh.out.tt _ h).1; omega
                · omega, fun _ _ h => h⟩)
            refine ⟨by rw [List.append_assoc]; exact hSh.out.all, by simp, rfl, bk_here hB2w _ rfl, by rw [List.map_append]; exact hJ6, fun r hr => ?_, ?_, ?_⟩
            · have h9 := t2 r hr
              rw [World.size_setCell]
              refine ⟨?_, h9⟩
              rcases t1 r hr with h | h
              · exact (hSh.out.tt _ h).1
              · exact Nat.le_trans hSh.out.sz h
            · refine Lie.trans (B := w5) ⟨Nat.le_trans hSh.out.lie.size hli.size, fun j hj hn => (hli.same j (Nat.lt_of_lt_of_le hj hSh.out.lie.size) ?_).trans (hSh.out.lie.same j hj hn)⟩ (Lie.setCell _ _ (.inr rfl))
              rintro (h | h | h)
              · exact hn (.inl h)
              · have := (hSh.out.tt _ h).1; omega
              · omega
            · have := hSh.out.sz
              have := hli.size
              rw [World.size_setCell]
              omega
          have hB2w : w5.heap[B2]? = some (.cells #[.string (bs (txL (d :: e :: rs)))] 9 (0, 0)) := by
            rw [hli.same B2 s2 (by
              rintro (h | h | h)
              · exact hM2'.out h
              · have := (hSh.out.tt _ h).1; omega
              · omega)]
            exact hSh.out.at2
          have hB1w : w5.heap[B1]? = some (.cells #[.string ⟨#[44]⟩] 9 (0, 0)) := by
            rw [hli.same B1 s1 (by
              rintro (h | h | h)
              · exact hM1'.out h
              · have := (hSh.out.tt _ h).1; omega
              · omega)]
            exact a1'.out
          have e1 := bk1 hB1w
          have e2 := bk1 hB2w
          have f1 := bk_size hB1w
          have f2 := bk_size hB2w
          have hnx' : Hid (SX (rs.length + 1) (w5.setCell ⟨B2, 0, none⟩ (.string (bs (txL (e :: rs)))))) := hSX2.out _ _ ⟨_, _, _, hnx⟩
          have hsl3 := hsl2.out w5
          have hlen := hSh.out.len
          have hlen' := Lib.hid hlen
          clear hnx hJ4 hli hB1w hB2w hlen c1 c2 c3 s1 s2 s3 hsl1
          gi_wp2_with fail
          refine ⟨⟨_, hnx'.out⟩, ?_⟩
          have h5 := hf'.out
          rw [h5, ← hlen'.out]
          exact Nat.lt_of_le_of_lt ((leastOf_spec (p := fun f => SX f (w5.setCell ⟨B2, 0, none⟩ (.string (bs (txL (e :: rs)))))) ⟨_, hnx'.out⟩).2 _ hnx'.out) (by simp)
        · have hJ5' := Lib.hid hJ4
          clear hJ4 hli
          gi_wp2
          refine bodyPost_ret (results_none rfl _ _ _) rfl ?_
          exact ⟨⟨_, rfl⟩, .inr ⟨_, _, ⟨(e :: rs).map fr, by rw [← hSh.out.all]; simp⟩, hJ5'.out⟩⟩
end Go.Proofs

set_option linter.unusedSimpArgs false
set_option linter.unusedVariables false
namespace Go.Proofs
open Go.RowKit

attribute [local go_sem] Oper.semAt_some
/-! marksOf over signs with commas between. -/
def dgt (a : Nat) : UInt8 := UInt8.ofNat (48 + a)
theorem dgt_ne : ∀ a, a < 10 → dgt a ≠ 44 ∧ dgt a ≠ 45 := by decide
theorem dgt_atoi : ∀ a, a < 10 → Lib.atoi [dgt a] = some (a : Int) := by decide +kernel
theorem dgt_dec : ∀ a, a < 10 → Lib.decDigits a = [dgt a] := by decide +kernel
theorem atoi_dgt (a : Nat) (h : a < 10) (w : World) : Calls Tryz.prog 63 #[.string (fr (dgt a))] w fun e w' => e = .returned (.tuple #[.int .i64 a, .nilIface]) ∧ Below w.heap.size w w' := by
  refine (Tryz.strconv_Atoi (fr (dgt a)) a (show 1 ≤ 18 by decide) (dgt_atoi a h) w).mono ?_
  rintro e w' ⟨rfl, t, rfl⟩
  exact ⟨rfl, rfl, rfl, rfl, by rw [Lib.bytesWorld_size]; omega, fun k hk => Lib.bytesWorld_at_old w 5 t k hk⟩
theorem itoa_dgt (a : Nat) (h : a < 10) (w : World) : Calls Tryz.prog 44 #[.int .i64 a] w fun e w' => e = .returned (.string (fr (dgt a))) ∧ w' = w := by
  refine (Tryz.strconv_Itoa_small a (by omega) w).mono ?_
  rw [dgt_dec a h]
  exact fun e w' h => h
theorem trim_dgt (a : Nat) (h : a < 10) (w : World) : Calls Tryz.prog 64 #[.string (fr (dgt a)), .string ⟨#[45]⟩] w fun e w' => e = .returned (.string (fr (dgt a))) ∧ w' = w := by
  refine (Tryz.strings_TrimPrefix (fr (dgt a)) ⟨#[45]⟩ w).mono ?_
  have : Lib.trimPrefix (fr (dgt a)).data.toList [45] = [dgt a] := by
    show Lib.trimPrefix [dgt a] [45] = [dgt a]
    unfold Lib.trimPrefix
    have := (dgt_ne a h).2
    simp [Lib.hasPrefix, this, Ne.symm this]
  rintro e w' ⟨rfl, rfl⟩
  refine ⟨?_, rfl⟩
  show _ = Ending.returned (.string ⟨[dgt a].toArray⟩)
  rw [← this]
theorem split83_any (s sep : ByteArray) (w : World) :
    Calls Tryz.prog 83 #[.string s, .string sep, .int .i64 0] w fun e w' => e = .returned (.func (.func 99) #[] #[.pointer (some ⟨w.heap.size + 1, 0, none⟩), .pointer (some ⟨w.heap.size, 0, none⟩), .pointer (some ⟨w.heap.size + 2, 0, none⟩)]) ∧
      ((w.alloc (.cells #[.string s] 9)).alloc (.cells #[.string sep] 9)).alloc (.cells #[.int .i64 0] 3) = w' := by
  have hmf : ∀ (fn : Fn) (first cap : Array Value) (w : World), (Instr.makeFunc fn first cap).run Tryz.prog w = .ok (.func fn first cap) w := fun _ _ _ _ => rfl
  go_enter Tryz.func83, Tryz.ntmps83
  go_wp2
  go_ret
  exact ⟨rfl, rfl⟩
theorem split62_any (s sep : ByteArray) (w : World) :
    Calls Tryz.prog 62 #[.string s, .string sep] w fun e w' => e = .returned (.func (.func 99) #[] #[.pointer (some ⟨w.heap.size + 1, 0, none⟩), .pointer (some ⟨w.heap.size, 0, none⟩), .pointer (some ⟨w.heap.size + 2, 0, none⟩)]) ∧
      ((w.alloc (.cells #[.string s] 9)).alloc (.cells #[.string sep] 9)).alloc (.cells #[.int .i64 0] 3) = w' := by
  go_enter Tryz.func62, Tryz.ntmps62
  go_wp2_with (go_at_call 83; refine (split83_any _ _ _).mono ?_; rintro e w1 ⟨rfl, rfl⟩)
  go_ret
  exact ⟨rfl, rfl⟩
theorem pre_fr {u : List Nat} {pre : List ByteArray} {x : ByteArray} (h : pre ++ [x] <+: (u.map dgt).map fr) : ∃ a, u[pre.length]? = some a ∧ x = fr (dgt a) := by
  obtain ⟨r, h⟩ := h
  have h1 : ((u.map dgt).map fr)[pre.length]? = some x := by
    rw [← h]
    simp
  rw [List.getElem?_map, List.getElem?_map] at h1
  cases hu : u[pre.length]? with
  | none => rw [hu] at h1; cases h1
  | some a =>
    rw [hu] at h1
    simp only [Option.map_some, Option.some.injEq] at h1
    exact ⟨a, rfl, h1.symm⟩
set_option maxRecDepth 100000 in
theorem marksOf_none (w : World) : Calls Tryz.prog 39 #[.string ⟨#[45]⟩] w fun e w' => e = .returned (.tuple #[.slice none 0 0, .bool true]) ∧ Below w.heap.size w w' := by
  go_enter Tryz.func39, Tryz.ntmps39
  go_wp2
  have R1 := bk1 (bk_alloc (bk_new w (.cells #[.slice none 0 0] 26) rfl) (.cells #[.bool true] 4))
  have R2 := bk1 (bk_new (w.alloc (.cells #[.slice none 0 0] 26)) (.cells #[.bool true] 4) (by simp : w.heap.size + 1 = _))
  refine bodyPost_ret (v := .tuple #[.slice none 0 0, .bool true]) ?_ rfl ⟨rfl, by go_grown⟩
  simp [results, Tryz.results39, go_sem, R1, R2]
structure MoI (u : List Nat) (m : Nat) (w W : World) (pre : List ByteArray) (T : Nat → Prop) (W' : World) : Prop where
  bl : Below m w W'
  e2 : W'.heap[m]? = some (.cells #[.slice none 0 0] 26 (0, 0))
  e3 : W'.heap[m + 1]? = some (.cells #[.bool false] 4 (0, 0))
  sz : W.heap.size ≤ W'.heap.size
  ow : ∃ v, W'.heap[m + 1 + 1]? = some (.cells #[v] 26 (0, 0)) ∧ W'.ownsRow W.heap.size 3 1 v pre.length ((u.take pre.length).flatMap Nc) ∧ ∀ g, v.ownBlock = some g → T g
set_option maxRecDepth 100000 in
set_option maxHeartbeats 4000000 in
theorem marksOf_any (u : List Nat) (h0 : u ≠ []) (hu : ∀ a ∈ u, a < 10) (hl : u.length ≤ 100) (w : World) :
    Calls Tryz.prog 39 #[.string (bs (txL (u.map dgt)))] w fun e w' => (∃ A c, e = .returned (.tuple #[.slice A u.length c, .bool true]) ∧ At 1 Nc w' A u) ∧ Below w.heap.size w w' := by
  refine (callsIn_wide (n := 6)).1 ?_
  refine callsIn_of_wp_marks Tryz.func39 rfl trivial ?_ rfl
  simp only [Tryz.ntmps39, List.size_toArray, List.length_cons, List.length_nil, Nat.reduceAdd, Nat.reduceSub, Array.replicate_succ, Array.replicate_zero, List.push_toArray, List.append_toArray, List.nil_append, List.cons_append]
  have hne : ((bs (txL (u.map dgt))).toList == [45]) = false := by
    rw [ByteArray.toList_eq, beq_eq_false_iff_ne]
    cases u with
    | nil => exact (h0 rfl).elim
    | cons a u =>
      intro h
      have h1 : (bs (txL ((a :: u).map dgt))).data.toList[0]? = some 45 := by rw [h]; rfl
      have h2 : (bs (txL ((a :: u).map dgt))).data.toList[0]? = some (dgt a) := by
        cases u <;> rfl
      rw [h2] at h1
      injection h1 with h1
      exact (dgt_ne a (hu a (List.mem_cons_self ..))).2 h1
  have hds : u.map dgt ≠ [] := by simpa using h0
  have hd44 : ∀ d ∈ u.map dgt, d ≠ 44 := fun d hd => by
    obtain ⟨a, ha, rfl⟩ := List.mem_map.1 hd
    exact (dgt_ne a (hu a ha)).1
  obtain ⟨S, hS⟩ : ∃ S, bs (txL (u.map dgt)) = S := ⟨_, rfl⟩
  have hS' := Lib.hid hS
  rw [hS] at hne ⊢
  clear hS
  gi_wp2_with (refine ⟨trivial, ?_⟩; gi_at_call 62; refine (callsIn_wide.2 (split62_any _ _ _)).mono ?_; rintro e w1 ⟨rfl, rfl⟩)
  refine wpIn_world ?_
  intro W hW_W
  have hb_W : Below w.heap.size w W := by rw [hW_W]; go_grown
  have hsW : W.heap.size = w.heap.size + 6 := by rw [hW_W]; simp
  have E2 : W.heap[w.heap.size]? = some (.cells #[.slice none 0 0] 26 (0, 0)) := by rw [hW_W]; (repeat (first | assumption | (refine bk_new _ _ ?_; (simp; done)) | refine bk_drew ?_ | refine bk_alloc ?_ _ | refine bk_set ?_ (by simp <;> omega) _))
  have E3 : W.heap[w.heap.size + 1]? = some (.cells #[.bool false] 4 (0, 0)) := by rw [hW_W]; (repeat (first | assumption | (refine bk_new _ _ ?_; (simp; done)) | refine bk_drew ?_ | refine bk_alloc ?_ _ | refine bk_set ?_ (by simp <;> omega) _))
  have E4 : W.heap[w.heap.size + 1 + 1]? = some (.cells #[.slice none 0 0] 26 (0, 0)) := by rw [hW_W]; (repeat (first | assumption | (refine bk_new _ _ ?_; (simp; done)) | refine bk_drew ?_ | refine bk_alloc ?_ _ | refine bk_set ?_ (by simp <;> omega) _))
  have P1 : W.heap[w.heap.size + 1 + 1 + 1]? = some (.cells #[.string S] 9 (0, 0)) := by rw [hW_W]; (repeat (first | assumption | (refine bk_new _ _ ?_; (simp; done)) | refine bk_drew ?_ | refine bk_alloc ?_ _ | refine bk_set ?_ (by simp <;> omega) _))
  have P2 : W.heap[w.heap.size + 1 + 1 + 1 + 1]? = some (.cells #[.string ⟨#[44]⟩] 9 (0, 0)) := by rw [hW_W]; (repeat (first | assumption | (refine bk_new _ _ ?_; (simp; done)) | refine bk_drew ?_ | refine bk_alloc ?_ _ | refine bk_set ?_ (by simp <;> omega) _))
  have P3 : W.heap[w.heap.size + 1 + 1 + 1 + 2]? = some (.cells #[.int .i64 0] 3 (0, 0)) := by rw [hW_W]; (repeat (first | assumption | (refine bk_new _ _ ?_; (simp; done)) | refine bk_drew ?_ | refine bk_alloc ?_ _ | refine bk_set ?_ (by simp <;> omega) _))
  clear hW_W
  rw [← hS'.out] at P1
  have hstops := split_stops 5 (u.map dgt) hds hd44 (by rw [List.length_map]; omega) (w.heap.size + 1 + 1 + 1 + 1) (w.heap.size + 1 + 1 + 1) (w.heap.size + 1 + 1 + 1 + 2) (· = w.heap.size + 1 + 1) W P2 P1 P3 (by omega) (by omega) (by omega) (by omega) (by omega) (by rintro k rfl; omega)
  refine wp_rangeO rfl (by omega) (gf := 99) (lb := #[.pointer (some ⟨w.heap.size + 1 + 1 + 1 + 1, 0, none⟩), .pointer (some ⟨w.heap.size + 1 + 1 + 1, 0, none⟩), .pointer (some ⟨w.heap.size + 1 + 1 + 1 + 2, 0, none⟩)]) rfl trivial (enters_of Tryz.func99 (by kernel_rfl) rfl) hstops (by rintro k rfl; omega) (by rintro k rfl; omega) (fun _ => rfl)
    (fun pre T W' => MoI u w.heap.size w W pre T W')
    (fun c pre T W' => False)
    (fun pre T x a W' => (∃ d, u[pre.length]? = some d ∧ x = fr (dgt d)) ∧ MoI u w.heap.size w W pre T W' ∧ a = { tmps := #[.string S, undef, .pointer (some ⟨w.heap.size, 0, none⟩), .pointer (some ⟨w.heap.size + 1, 0, none⟩), .pointer (some ⟨w.heap.size + 1 + 1, 0, none⟩), .string x, undef, undef, .string S, .bool false, .string S, .func (.func 99) #[] #[.pointer (some ⟨w.heap.size + 1 + 1 + 1 + 1, 0, none⟩), .pointer (some ⟨w.heap.size + 1 + 1 + 1, 0, none⟩), .pointer (some ⟨w.heap.size + 1 + 1 + 1 + 2, 0, none⟩)], .string x, undef, undef, undef, undef, undef, undef, undef, undef, undef, undef, undef, undef, undef, undef, undef, undef, undef, undef, undef, undef, undef, undef, undef, undef], defers := [] })
    ?hI ?hIx ?hAx ?h0 ?assign ?body ?done ?stop
  case hI =>
    rintro s T A W' row ⟨h1, h2, h3, h4, v, h5, h6, h7⟩ hg hr
    have hn : ∀ r, row = some r → r ≠ w.heap.size ∧ r ≠ w.heap.size + 1 ∧ r ≠ w.heap.size + 1 + 1 ∧ w.heap.size ≤ r := fun r e => by
      rcases (hr r e).1 with h | h <;> omega
    refine ⟨h1.grown hg h1.size (fun r e => (hn r e).2.2.2), ?_, ?_, by have := hg.size; omega, v, ?_, ?_, h7⟩
    · rw [hg.block _ (bk_size h2) (fun e => (hn _ e.symm).1 rfl)]
      exact h2
    · rw [hg.block _ (bk_size h3) (fun e => (hn _ e.symm).2.1 rfl)]
      exact h3
    · rw [hg.block _ (bk_size h5) (fun e => (hn _ e.symm).2.2.1 rfl)]
      exact h5
    · exact owns_kept h6 fun g hgv => hg.block g (h6.lt g hgv).2 (fun e => (hr g e.symm).2.1 (h7 g hgv))
  case hIx =>
    rintro c s T A W' row h
    exact h.elim
  case hAx =>
    rintro pre T x a W' l o o' hl hT hgv ho hc ⟨hd, ⟨h1, h2, h3, h4, v, h5, h6, h7⟩, ha⟩
    refine ⟨hd, ⟨h1.grown (grownBy_putObj' W' l o') h1.size (fun r e => by cases e; omega), (World.putObj_heap_other (by omega)).trans h2, (World.putObj_heap_other (by omega)).trans h3, by rw [World.putObj_size]; exact h4, v, (World.putObj_heap_other (by omega)).trans h5, owns_kept h6 fun g hgv => World.putObj_heap_other (fun e => hT (e ▸ h7 g hgv)), h7⟩, ha⟩
  case h0 => exact ⟨hb_W, E2, E3, Nat.le_refl _, _, E4, World.ownsRow_nil _ _ _ _, fun g h => by cases h⟩
  case assign =>
    rintro l pre T x W' hI hT hlen hpre hgv
    have hx := pre_fr hpre
    unfold encS
    gi_wp2
    exact ⟨Lie.refl _ _, hx, hI, trivial⟩
  case body =>
    rintro l pre T x a W' ⟨⟨d, hd, rfl⟩, ⟨h1, h2, h3, h4, v, h5, h6, h7⟩, rfl⟩ hT hlen
    have hd10 := hu d (List.mem_of_getElem? hd)
    rw [List.length_map] at hlen
    have hA := Lib.hid (atoi_dgt d hd10)
    have hIt := Lib.hid (itoa_dgt d hd10)
    have hTr := Lib.hid (trim_dgt d hd10)
    have hzz : (fr (dgt d)).size = 1 := rfl
    obtain ⟨X, hX⟩ : ∃ X, fr (dgt d) = X := ⟨_, rfl⟩
    have hX' := Lib.hid hX
    rw [hX] at hA hIt hTr hzz ⊢
    clear hX
    gi_wp2_with (first
      | (refine ⟨trivial, ?_⟩
         gi_at_call 63
         refine (CallsIn.inRound l (callsIn_wide.2 (hA.out _))).mono ?_
         rintro e w1 ⟨rfl, hb1⟩
         have C4 := bk1 (bk_keep hb1 h5)
         have C4s := bk_size (bk_keep hb1 h5)
         obtain ⟨v', w2, hr4, hq4, hg4, hd4⟩ := push_own (owns_below h6 hb1) d (by omega) (by have := hb1.size; omega)
         obtain ⟨A', c', rfl⟩ := own_slice hq4
         have hr4' := Lib.hid hr4
         have hlt4 : ∀ r, v.ownBlock = some r → W.heap.size ≤ r := fun r e => (h6.lt r e).1
         have q5 : w2.heap[w.heap.size + 1 + 1]? = some (.cells #[v] 26 (0, 0)) := (by
           rw [hg4.block _ (bk_size (bk_keep hb1 h5)) (fun e => by have := hlt4 _ e.symm; omega)]
           exact bk_keep hb1 h5)
         have C5 := bk1 q5
         have C5s := bk_size q5
         clear hr4)
      | (refine ⟨trivial, ?_⟩
         gi_at_call 44
         refine (CallsIn.inRound l (callsIn_wide.2 (hIt.out _))).mono ?_
         rintro e w3 ⟨rfl, rfl⟩)
      | (refine ⟨trivial, ?_⟩
         gi_at_call 64
         refine (CallsIn.inRound l (callsIn_wide.2 (hTr.out _))).mono ?_
         rintro e w3 ⟨rfl, rfl⟩)
      | (refine wpListIn_app (by with_reducible rfl) (.tmp 32) (.tmp 34) 26 (by with_reducible rfl) (by rfl) (by rfl) hr4'.out ?_))
    have hlt4 : ∀ r, v.ownBlock = some r → W.heap.size ≤ r := fun r e => (h6.lt r e).1
    have hs1 := hb1.size
    have hs2 := hg4.size
    have htk : (u.take (pre ++ [X]).length) = u.take pre.length ++ [d] := by
      obtain ⟨hk', he⟩ := List.getElem?_eq_some_iff.1 hd
      rw [List.length_append, List.length_singleton, List.take_succ_eq_append_getElem hk', he]
    have hk : ∀ {k : Nat} {o : Obj}, k < W.heap.size → k ≠ w.heap.size + 1 + 1 → W'.heap[k]? = some o → (w2.setCell ⟨w.heap.size + 1 + 1, 0, none⟩ (.slice A' (pre.length + 1) c')).heap[k]? = some o := fun {k o} hk hne h => by
      rw [Below.heap_setCell _ _ _ k (by dsimp only; exact hne), hg4.block k (by have := bk_size h; omega) (fun e => by have := hlt4 _ e.symm; omega)]
      exact bk_keep hb1 h
    refine ⟨fun r => T r ∨ (Value.slice A' (pre.length + 1) c').ownBlock = some r, ?_, ?_, ?_, ?_⟩
    · rintro r (h | h)
      · exact .inl h
      · rcases hd4 with e | ⟨r', e, hr'⟩
        · exact .inl (h7 r (e ▸ h))
        · rw [h] at e
          injection e with e
          exact .inr (by omega)
    · rintro r (h | h)
      · have := (hT r h).2
        simp
        omega
      · have := (hq4.lt r h).2
        simp
        exact this
    · refine ⟨by simp; omega, fun k hk hn => ?_⟩
      rw [Below.heap_setCell _ _ _ k (by dsimp only; exact fun e => hn (.inl e)), hg4.block k (by omega) (fun e => hn (.inr (h7 k e.symm)))]
      exact hb1.block k hk
    · refine ⟨?_, hk (by omega) (by omega) h2, hk (by omega) (by omega) h3, by simp; omega, _, bk_here q5 _ rfl, ?_, fun g hg => .inr hg⟩
      · have h9 := via h1 hb1
        have h10 : Below w.heap.size w w2 := h9.grown hg4 h9.size (fun r e => by have := hlt4 r e; omega)
        exact h10.setCell (by dsimp only; omega) _
      · rw [htk, List.length_append, List.length_singleton]
        exact owns_kept hq4 fun g hg => Below.heap_setCell _ _ _ g (by
          dsimp only
          have := (hq4.lt g hg).1
          omega)
  case stop =>
    rintro D c pre T W' hS h
    exact h.elim
  case done =>
    rintro D xs T W' rfl ⟨h1, h2, h3, h4, v, h5, h6, h7⟩ rfl hK
    rw [List.length_map, List.length_map, List.take_of_length_le (Nat.le_refl _)] at h6
    have C5 := bk1 h5
    have C2 := bk1 h2
    have C3 := bk1 h3
    have s2 := bk_size h2
    have s3 := bk_size h3
    obtain ⟨A', c', rfl⟩ := own_slice h6
    gi_wp2_with fail
    have hK2 : (((W'.setCell ⟨w.heap.size, 0, none⟩ (.slice A' u.length c')).setCell ⟨w.heap.size + 1, 0, none⟩ (.bool true))).heap[W.heap.size]? = some (.deferred (some [])) := (Below.heap_setCell _ _ _ _ (by dsimp only; omega)).trans ((Below.heap_setCell W' _ _ _ (by dsimp only; omega)).trans hK)
    have hbb : Below w.heap.size w (((W'.setCell ⟨w.heap.size, 0, none⟩ (.slice A' u.length c')).setCell ⟨w.heap.size + 1, 0, none⟩ (.bool true))) := by go_grown
    have R2 : (((W'.setCell ⟨w.heap.size, 0, none⟩ (.slice A' u.length c')).setCell ⟨w.heap.size + 1, 0, none⟩ (.bool true))).heap[w.heap.size]? = some (.cells #[.slice A' u.length c'] 26 (0, 0)) := bk_set (bk_here h2 _ rfl) (by simp) _
    have R3 : (((W'.setCell ⟨w.heap.size, 0, none⟩ (.slice A' u.length c')).setCell ⟨w.heap.size + 1, 0, none⟩ (.bool true))).heap[w.heap.size + 1]? = some (.cells #[.bool true] 4 (0, 0)) := bk_here (bk_set h3 (by simp) _) _ rfl
    have h8 : (((W'.setCell ⟨w.heap.size, 0, none⟩ (.slice A' u.length c')).setCell ⟨w.heap.size + 1, 0, none⟩ (.bool true))).ownsRow W.heap.size 3 1 (.slice A' u.length c') u.length (u.flatMap Nc) := owns_kept h6 fun g hg => by
      have := (h6.lt g hg).1
      exact (Below.heap_setCell _ _ _ _ (by dsimp only; omega)).trans (Below.heap_setCell W' _ _ _ (by dsimp only; omega))
    refine ⟨by simp, .inl ⟨_, _, rfl, run_takeDeferred hK2, ?_⟩⟩
    have hpo : ∀ k, k ≠ W.heap.size → ((((W'.setCell ⟨w.heap.size, 0, none⟩ (.slice A' u.length c')).setCell ⟨w.heap.size + 1, 0, none⟩ (.bool true))).putObj W.heap.size (.deferred none)).heap[k]? = (((W'.setCell ⟨w.heap.size, 0, none⟩ (.slice A' u.length c')).setCell ⟨w.heap.size + 1, 0, none⟩ (.bool true))).heap[k]? := fun k hk => World.putObj_heap_other hk
    have h9 := hpo w.heap.size (by omega)
    have h10 := hpo (w.heap.size + 1) (by omega)
    have h11 : Below w.heap.size w ((((W'.setCell ⟨w.heap.size, 0, none⟩ (.slice A' u.length c')).setCell ⟨w.heap.size + 1, 0, none⟩ (.bool true))).putObj W.heap.size (.deferred none)) := hbb.grown (grownBy_putObj' _ _ _) hbb.size (fun r e => by cases e; omega)
    have h12 : At 1 Nc ((((W'.setCell ⟨w.heap.size, 0, none⟩ (.slice A' u.length c')).setCell ⟨w.heap.size + 1, 0, none⟩ (.bool true))).putObj W.heap.size (.deferred none)) A' u := by
      obtain ⟨A2, c2, e2, h13⟩ := at_of_owns (cs := Nc) (sz := 1) (fun _ => rfl) h8
      injection e2 with e3 _ _
      rw [← e3] at h13
      intro k y hy
      obtain ⟨b, o, hA, hlt, hc⟩ := h13 k y hy
      exact ⟨b, o, hA, by rw [World.putObj_size]; exact hlt, fun j v hv => cell_putObj _ hK2 rfl (hc j v hv)⟩
    refine ⟨.tuple #[.slice A' u.length c', .bool true], ?_, ⟨_, _, rfl, h12⟩, h11⟩
    have R4 := bk1 (h9.trans R2)
    have R5 := bk1 (h10.trans R3)
    generalize (((W'.setCell ⟨w.heap.size, 0, none⟩ (.slice A' u.length c')).setCell ⟨w.heap.size + 1, 0, none⟩ (.bool true))).putObj W.heap.size (.deferred none) = W9 at *
    simp [results, Tryz.results39, go_sem, R4, R5]
end Go.Proofs

set_option linter.unusedSimpArgs false
set_option linter.unusedVariables false
namespace Go.Proofs
open Go.RowKit

/-! FormatSheet of few marks. -/
def restB (u : List Nat) : ByteArray := if u = [] then ⟨#[45]⟩ else bs (txL (u.map dgt))
theorem join_tx : ∀ (u : List Nat), Lib.join ((u.map fun a => fr (dgt a)).map (·.data.toList)) [44] = txL (u.map dgt)
  | [] => rfl
  | [a] => rfl
  | a :: b :: u => by
    have ih := join_tx (b :: u)
    simp only [List.map_cons] at ih ⊢
    show [dgt a] ++ [44] ++ Lib.join _ _ = _
    unfold txL
    rw [← ih]
    rfl
theorem txL_len : ∀ (l : List UInt8), (txL l).length ≤ 2 * l.length
  | [] => Nat.le_refl _
  | [a] => by simp [txL]
  | a :: b :: u => by
    have ih := txL_len (b :: u)
    unfold txL
    simp only [List.length_cons] at ih ⊢
    omega
theorem strings_join_own (u : List Nat) (g m c : Nat) (w : World) {base : Nat} (hm : u.length = m) (h : w.ownsRow base 9 1 (.slice (some ⟨g, 0, none⟩) m c) m ((u.map fun a => fr (dgt a)).flatMap Sc)) (hl : m ≤ 1000) :
    Calls Tryz.prog 45 #[.slice (some ⟨g, 0, none⟩) m c, .string ⟨#[44]⟩] w fun e w' => e = .returned (.string (bs (txL (u.map dgt)))) ∧ Below w.heap.size w w' := by
  subst hm
  have hat : w.ownsRow base 9 1 (.slice (some ⟨g, 0, none⟩) (u.map fun a => fr (dgt a)).length c) (u.map fun a => fr (dgt a)).length ((u.map fun a => fr (dgt a)).flatMap Sc) := by
    rw [List.length_map]
    exact h
  obtain ⟨A', c', e', h2⟩ := at_of_owns (cs := Sc) (sz := 1) (fun _ => rfl) hat
  injection e' with e1 _ _
  rw [← e1] at h2
  have hgs := (h.lt g rfl).2
  have hcap : u.length ≤ c := by
    rcases h.2 with ⟨h, h2⟩ | ⟨g', cap, cur, h, -, -, h4, -⟩
    · first
        | (injection h with h3; cases h3)
        | (injection h2 with h3; cases h3)
    · cases h
      exact h4
  have hj := Tryz.strings_Join g 0 c (u.map fun a => fr (dgt a)) ⟨#[44]⟩ w (fun j x hx => by
    obtain ⟨b, o, hA, hb, hc⟩ := h2 j x hx
    cases hA
    simpa using hc 0 _ rfl) hgs (by rw [List.length_map]; omega) (by rw [List.length_map]; exact hcap) (by
    rw [join_tx]
    have := txL_len (u.map dgt)
    rw [List.length_map] at this
    omega)
  rw [List.length_map, join_tx] at hj
  exact hj
set_option maxRecDepth 100000 in
set_option maxHeartbeats 2000000 in
theorem formatSheet_any (cask : ByteArray) (A : Option Addr) (u : List Nat) (c : Nat) (w : World) (hau : At 1 Nc w A u) (hu : ∀ a ∈ u, a < 10) (hul : u.length ≤ 40) (hcs : cask.size ≤ 1000) :
    Calls Tryz.prog 14 #[.agg #[.string cask, .slice A u.length c]] w fun e w' => e = .returned (.string (cask ++ ⟨#[32]⟩ ++ restB u)) ∧ Below w.heap.size w w' := by
  by_cases h0 : u = []
  · subst h0
    unfold restB
    rw [if_pos rfl]
    go_enter Tryz.func14, Tryz.ntmps14
    go_wp2
    go_ret
    exact ⟨rfl, by go_grown⟩
  · have hau' := Lib.hid hau
    have hu' := Lib.hid hu
    unfold restB
    rw [if_neg h0]
    obtain ⟨m, hm⟩ : ∃ m, u.length = m := ⟨_, rfl⟩
    have hm' := Lib.hid hm
    have hm0 : 0 < m := by
      rcases Nat.eq_zero_or_pos m with h | h
      · exact (h0 (List.eq_nil_of_length_eq_zero (hm.trans h))).elim
      · exact h
    have hm1 : ((m : Int) == 0) = false := by
      rw [beq_eq_false_iff_ne]
      omega
    obtain ⟨R, hR⟩ : ∃ R, bs (txL (u.map dgt)) = R := ⟨_, rfl⟩
    have hRl : R.size ≤ 80 := by
      have h9 := txL_len (u.map dgt)
      rw [List.length_map, hm] at h9
      rw [← hR, bs_size]
      omega
    have hR' := Lib.hid hR
    rw [hR]
    rw [hm] at hul ⊢
    clear hau hu hm h0 hR
    go_enter Tryz.func14, Tryz.ntmps14
    go_wp2_with fail
    have B0 := bk_new w (.cells #[.string cask, .slice A m c] 40) rfl
    have hbw0 := new_below w (.cells #[.string cask, .slice A m c] 40)
    go_loopw [17, 3] (fun j v wr => ∃ i : Nat, i ≤ m ∧ j = .int .i64 i ∧ Below w.heap.size w wr ∧ wr.heap[w.heap.size]? = some (.cells #[.string cask, .slice A m c] 40 (0, 0)) ∧ Hid (wr.ownsRow (w.heap.size + 1) 9 1 v i (((u.take i).map fun a => fr (dgt a)).flatMap Sc)))
      (fun j _ _ => m - (intOf j).toNat)
    case atStart => exact ⟨0, Nat.zero_le _, rfl, hbw0, B0, World.ownsRow_nil _ _ _ _⟩
    case round =>
      clear B0 hbw0
      obtain ⟨i, hi, rfl, hbw, B0, ho⟩ := hrel
      have C0 := bk2 B0
      have hBs := bk_size B0
      by_cases hlt : i < m
      · obtain ⟨a, ha⟩ : ∃ a, u[i]? = some a := ⟨_, List.getElem?_eq_getElem (by rw [hm'.out]; exact hlt)⟩
        have ha10 := hu'.out a (List.mem_of_getElem? ha)
        obtain ⟨b, o, rfl, hb, hc⟩ := hau'.out i a ha
        have a0 := (gcell hbw b (o + i) hb).trans (by simpa using hc 0 _ rfl)
        have hbr : b < wr.heap.size := Nat.lt_of_lt_of_le hb hbw.size
        have hiI : (i : Int) < (m : Int) := by omega
        have hIt := Lib.hid (itoa_dgt a ha10)
        have htk : Hid ((u.take (i + 1)).map (fun a => fr (dgt a)) = (u.take i).map (fun a => fr (dgt a)) ++ [fr (dgt a)]) := by
          obtain ⟨hk', he⟩ := List.getElem?_eq_some_iff.1 ha
          unfold Hid
          rw [List.take_succ_eq_append_getElem hk', he, List.map_append]
          rfl
        obtain ⟨v5, w5, hr5, ho5, hg5⟩ := push_text ho.out (fr (dgt a)) (by omega) (by omega)
        have hr5' := Lib.hid hr5
        clear hc ha hr5
        go_wp2_with (first
          | (go_at_call 44; refine (hIt.out _).mono ?_; rintro e w1 ⟨rfl, rfl⟩)
          | (at_builtin; refine wpList_app rfl (.tmp 21) (.tmp 24) 22 rfl rfl rfl hr5'.out ?_))
        go_roundw
        case rel =>
          have hlt5 : ∀ r, u3.ownBlock = some r → w.heap.size + 1 ≤ r := fun r e => (ho.out.lt r e).1
          refine ⟨i + 1, by omega, by go_num, hbw.grown hg5 hbw.size (fun r e => by have := hlt5 r e; omega), ?_, ?_⟩
          · rw [hg5.block _ hBs (fun e => by have := hlt5 _ e.symm; omega)]
            exact B0
          · rw [htk.out]
            exact ho5
        case measure => simp [intOf]; omega
      · have him : m = i := by omega
        subst him
        have hown := ho.out
        rw [List.take_of_length_le (by rw [hm'.out]; exact Nat.le_refl _)] at hown
        obtain ⟨g, c3, rfl, hg, hgs⟩ := hown.form (by omega)
        have hJ := Lib.hid fun W (hb : Below wr.heap.size wr W) => strings_join_own u g m c3 W hm'.out (owns_below hown hb) (by omega)
        rw [hR'.out] at hJ
        clear ho hown
        go_wp2_with fail
        refine region_in wr 5 (by kernel_rfl) (by kernel_rfl) (Below.refl _ _) ?_
        intro hgc hbx
        simp only [List.take_succ_cons, List.take_zero, List.drop_succ_cons, List.drop_zero]
        repeat (go_big_quiet_step ((go_at_call 45; exact Grew.call (hJ.out _ (hbx.out _)))))
        refine wpQuiet_nil ?_
        intro w3 hb3 hbw3 hsz3
        clear hgc hbx
        go_wp2
        go_ret
        exact ⟨rfl, via hbw hb3⟩
end Go.Proofs
