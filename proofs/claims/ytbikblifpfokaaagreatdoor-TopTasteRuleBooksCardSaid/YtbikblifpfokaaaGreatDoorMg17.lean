import Derived.Test.YtbikblifpfokaaaGreatDoorMg11
import Derived.Test.YtbikblifpfokaaaGreatDoorMg15
import Derived.Lib.IndexLaws
import Derived.Test.YtbikblifpfokaaaGreatDoorMg13
import Derived.Test.YtbikblifpfokaaaGreatDoorMg16
set_option linter.unusedSimpArgs false
set_option linter.unusedVariables false
namespace Go.Proofs
open Go.RowKit

/-- The rank of a name: what stands ahead of its first stroke. -/
def rkS (s : ByteArray) : ByteArray := if 0 ≤ Lib.indexByte s.data.toList 45 then s.extract 0 (Lib.indexByte s.data.toList 45).toNat else s
def CutGot (s : ByteArray) (e : Ending) : Prop := ∃ r b, e = .returned (.tuple #[.string (rkS s), .string r, .bool b])
theorem ix_le : ∀ (l : List UInt8) (c : UInt8), Lib.indexByte l c < l.length ∨ (l = [] ∧ Lib.indexByte l c = -1) ∨ Lib.indexByte l c = -1
  | [], c => .inr (.inl ⟨rfl, rfl⟩)
  | b :: l, c => by
    have ih := ix_le l c
    unfold Lib.indexByte
    split
    · left; rw [List.length_cons]; omega
    · split
      · exact .inr (.inr rfl)
      · left
        rename_i hne
        rcases ih with h | ⟨-, h⟩ | h
        · simp; omega
        · rw [h] at hne; exact absurd rfl hne
        · rw [h] at hne; exact absurd rfl hne
set_option maxRecDepth 100000 in
set_option maxHeartbeats 1000000 in
theorem cutIn_any (s : ByteArray) (w : World) (hs : s.size ≤ 1000000) :
    Calls Tryz.prog 61 #[.string s, .string ⟨#[45]⟩] w fun e w' => CutGot s e ∧ Below w.heap.size w w' := by
  have hI := Lib.hid fun W => Tryz.stringslite_Index_one s 45 W
  have hge := Lib.indexByte_ge s.data.toList 45
  have hle := ix_le s.data.toList 45
  have hsz : s.data.toList.length = s.size := by rw [Array.length_toList]; rfl
  rw [hsz] at hle
  unfold CutGot rkS
  obtain ⟨i, hi⟩ : ∃ i, Lib.indexByte s.data.toList 45 = i := ⟨_, rfl⟩
  rw [hi] at hI hge hle ⊢
  clear hi hsz
  by_cases h0 : 0 ≤ i
  · have hlt : i < (s.size : Int) := by
      rcases hle with h | ⟨-, h⟩ | h <;> omega
    rw [if_pos h0]
    obtain ⟨k, rfl⟩ : ∃ k : Nat, i = k := ⟨i.toNat, by omega⟩
    rw [Int.toNat_natCast]
    have hk : k < s.size := by omega
    have hkw : IntKind.i64.wrap ((k : Int) + 1) = (k : Int) + 1 := IntWalk.i64_in _ (by omega)
    have hk1 : (k : Int) + 1 ≤ (s.size : Int) := by omega
    have hk2 : (k : Int) ≤ (s.size : Int) := by omega
    clear hle hge h0
    go_enter Tryz.func61, Tryz.ntmps61
    go_wp2_with (go_at_call 82; refine (hI.out _).mono ?_; rintro e w' ⟨rfl, rfl⟩)
    refine region_all w' (by kernel_rfl) (by kernel_rfl) (by go_grown) ?_
    intro hgc hbx
    repeat (go_big_quiet_step (fail))
    refine wpQuiet_nil ?_
    intro wa hb hbwa hsw
    clear hgc hbx
    go_wp2
    refine bodyPost_ret (v := .tuple #[.string (s.extract 0 k), .string (s.extract (k + 1) s.size), .bool true]) ?_ rfl ⟨⟨_, _, rfl⟩, hbwa⟩
    simp [results, Tryz.results61, go_sem]
  · rw [if_neg h0]
    have hlt : ¬ (0 : Int) ≤ i := h0
    clear hle
    go_enter Tryz.func61, Tryz.ntmps61
    go_wp2_with (go_at_call 82; refine (hI.out _).mono ?_; rintro e w' ⟨rfl, rfl⟩)
    refine bodyPost_ret (v := .tuple #[.string s, .string { data := #[] }, .bool false]) ?_ rfl ⟨⟨_, _, rfl⟩, by go_grown⟩
    simp [results, Tryz.results61, go_sem]
set_option maxRecDepth 100000 in
theorem cut_any (s : ByteArray) (w : World) (hs : s.size ≤ 1000000) :
    Calls Tryz.prog 38 #[.string s, .string ⟨#[45]⟩] w fun e w' => CutGot s e ∧ Below w.heap.size w w' := by
  have hC := Lib.hid (cutIn_any s w hs)
  unfold CutGot at *
  generalize rkS s = q at *
  go_enter Tryz.func38, Tryz.ntmps38
  go_wp2_with (go_at_call 61; refine hC.out.mono ?_; rintro e w' ⟨⟨r, b, rfl⟩, hb⟩)
  refine bodyPost_ret (v := .tuple #[.string q, .string r, .bool b]) ?_ rfl ⟨⟨_, _, rfl⟩, hb⟩
  simp [results, Tryz.results38, go_sem]
/-- The rank of a class of a book. -/
def rkC (cl : List Cl) (i : Nat) : ByteArray := match cl[i]? with
  | some x => rkS x.nm
  | none => ByteArray.empty
set_option maxRecDepth 100000 in
set_option maxHeartbeats 1000000 in
theorem rank_any (mA cA : Option Addr) (mk : List ByteArray) (cl : List Cl) (mc cc : Nat) (bg : Int) (i : Nat) (w : World) (hc8 : cl.length ≤ 1000) (hs : ∀ x ∈ cl, x.nm.size ≤ 1000000) (hat : At 3 Cl.cs w cA cl) (hi : i < cl.length) :
    Calls Tryz.prog 36 #[.agg #[.slice mA mk.length mc, .int .i64 bg, .slice cA cl.length cc], .int .i64 i] w fun e w' => e = .returned (.string (rkC cl i)) ∧ Below w.heap.size w w' := by
  obtain ⟨x, hx⟩ : ∃ x, cl[i]? = some x := ⟨_, List.getElem?_eq_getElem hi⟩
  have hv : rkC cl i = rkS x.nm := by unfold rkC; rw [hx]
  rw [hv]
  have hsx := hs x (List.mem_of_getElem? hx)
  have hC := Lib.hid fun W => cut_any x.nm W hsx
  unfold CutGot at hC
  obtain ⟨b, o, rfl, hb, hc⟩ := hat i x hx
  obtain ⟨nm, nA, nx, nc, rA, rs, rc⟩ := x
  have c0 := hc 0 _ rfl
  dsimp only at c0 hC
  simp only [Nat.add_zero] at c0
  generalize rkS nm = q at *
  obtain ⟨N, hN⟩ : ∃ N, cl.length = N := ⟨_, rfl⟩
  obtain ⟨M, hM⟩ : ∃ M, mk.length = M := ⟨_, rfl⟩
  rw [hM]
  rw [hN] at hi hc8 ⊢
  have hiI : (i : Int) < (N : Int) := by omega
  clear hat hx hc hv hs hsx hN hM
  go_enter Tryz.func36, Tryz.ntmps36
  go_wp2_with (go_at_call 38; refine (hC.out _).mono ?_; rintro e w1 ⟨⟨r, b', rfl⟩, hb1⟩; have hbw := via (by go_grown : Below w.heap.size w _) hb1)
  go_ret
  exact ⟨rfl, hbw⟩
end Go.Proofs

set_option linter.unusedSimpArgs false
set_option linter.unusedVariables false
namespace Go.Proofs
open Go.RowKit
attribute [local go_sem] Oper.semAt_some

theorem search35_any (a b m : Int) (g : Nat) (first caps : Array Value) (w : World) :
    Calls Tryz.prog 35 #[.agg #[.int .i64 a, .int .i64 b], .int .i64 m, .func (.func g) first caps] w fun e w' => e = .returned (.func (.func 60) #[] #[.pointer (some ⟨w.heap.size, 0, none⟩), .pointer (some ⟨w.heap.size + 1, 0, none⟩), .pointer (some ⟨w.heap.size + 2, 0, none⟩)]) ∧
      ((w.alloc (.cells #[.int .i64 a, .int .i64 b] 77)).alloc (.cells #[.int .i64 m] 3)).alloc (.cells #[.func (.func g) first caps] 78) = w' := by
  have hmf : ∀ (fn : Fn) (first cap : Array Value) (w : World), (Instr.makeFunc fn first cap).run Tryz.prog w = .ok (.func fn first cap) w := fun _ _ _ _ => rfl
  go_enter Tryz.func35, Tryz.ntmps35
  go_wp2
  go_ret
  exact ⟨rfl, rfl⟩
theorem search26_any (a m : Int) (g : Nat) (first caps : Array Value) (w : World) :
    Calls Tryz.prog 26 #[.int .i64 a, .int .i64 m, .func (.func g) first caps] w fun e w' => e = .returned (.func (.func 58) #[] #[.pointer (some ⟨w.heap.size, 0, none⟩), .pointer (some ⟨w.heap.size + 1, 0, none⟩), .pointer (some ⟨w.heap.size + 2, 0, none⟩)]) ∧
      ((w.alloc (.cells #[.int .i64 a] 3)).alloc (.cells #[.int .i64 m] 3)).alloc (.cells #[.func (.func g) first caps] 73) = w' := by
  have hmf : ∀ (fn : Fn) (first cap : Array Value) (w : World), (Instr.makeFunc fn first cap).run Tryz.prog w = .ok (.func fn first cap) w := fun _ _ _ _ => rfl
  go_enter Tryz.func26, Tryz.ntmps26
  go_wp2
  go_ret
  exact ⟨rfl, rfl⟩
/-- What two ranks are told apart by. -/
def dif (cl cl2 : List Cl) (p : Nat × Nat) : Bool := !((rkC cl p.1).toList == (rkC cl2 p.2).toList)
def bothC (cl cl2 : List Cl) (p : Nat × Nat) (a : Nat) : Nat × Nat := (nxC cl p.1 a, nxC cl2 p.2 a)
def pairsU (n n2 : Nat) : List (Nat × Nat) := (List.range n).flatMap fun i => (List.range n2).map fun k => (i, k)
theorem mem_pairsU {n n2 : Nat} {p : Nat × Nat} : p ∈ pairsU n n2 ↔ p.1 < n ∧ p.2 < n2 := by
  unfold pairsU
  rw [List.mem_flatMap]
  constructor
  · rintro ⟨i, hi, h⟩
    obtain ⟨k, hk, rfl⟩ := List.mem_map.1 h
    exact ⟨List.mem_range.1 hi, List.mem_range.1 hk⟩
  · rintro ⟨h1, h2⟩
    exact ⟨p.1, List.mem_range.2 h1, List.mem_map.2 ⟨p.2, List.mem_range.2 h2, rfl⟩⟩
theorem pairsU_len (n n2 : Nat) : (pairsU n n2).length = n * n2 := by
  unfold pairsU
  induction n with
  | zero => simp
  | succ n ih => rw [List.range_succ, List.flatMap_append, List.length_append, ih, Nat.succ_mul]; simp
theorem nxC_lt {cl : List Cl} {mk : List ByteArray} {bg : Int} (hR : RightB mk bg cl) {s a : Nat} (hs : s < cl.length) (ha : a < mk.length) : nxC cl s a < cl.length := by
  have := runW_lt hR [a] s hs (fun x hx => by simp at hx; omega)
  exact this
theorem bfs_mem {S : Type} [DecidableEq S] {nx : S → Nat → S} {m : Nat} {b : S} {U : List S} (hb : b ∈ U) (hU : ∀ s ∈ U, ∀ a, a < m → nx s a ∈ U) {p : S × List Nat} (hp : p ∈ bfsB nx m b U.length) : p.1 ∈ U := by
  obtain ⟨seen, h⟩ := bfsB_done (next := nx) (m := m) (b := b) U hb hU
  exact h.univ U hb hU p (by simpa using hp)
theorem key_mem {S : Type} [DecidableEq S] {nx : S → Nat → S} {m : Nat} {b : S} {U : List S} (hb : b ∈ U) (hU : ∀ s ∈ U, ∀ a, a < m → nx s a ∈ U) {pre : List (Fd S)} {x : Fd S} (h : (pre ++ [x]).map Fd.key <+: bfsB nx m b U.length) : x.st ∈ U :=
  bfs_mem hb hU (p := x.key) (h.subset (by simp))
theorem BkAt.kept {w w' : World} {mA cA : Option Addr} {mk : List ByteArray} {cl : List Cl} (h : BkAt w mA mk cA cl) (hk : ∀ k, k < w.heap.size → w'.heap[k]? = w.heap[k]?) : BkAt w' mA mk cA cl := by
  have at_ : ∀ {α : Type} {sz : Nat} {cs : α → List Value} {A : Option Addr} {l : List α}, At sz cs w A l → At sz cs w' A l := fun {α sz cs A l} h k x hx => by
    obtain ⟨b, o, hA, hlt, hc⟩ := h k x hx
    refine ⟨b, o, hA, ?_, fun j v hv => ?_⟩
    · have he := hk b hlt
      rw [Array.getElem?_eq_getElem hlt] at he
      exact (Array.getElem?_eq_some_iff.1 he).1
    · rw [← hc j v hv]
      exact World.cell?_of_block (a := ⟨b, _, none⟩) (hk b hlt)
  exact ⟨at_ h.mks, at_ h.cls, fun x hx => at_ (h.nxs x hx), fun x hx => at_ (h.rss x hx)⟩
theorem noDefer {l : List Oper} (h : l.all (fun o => match o.op with | .defer _ => false | _ => true) = true) : ∀ o ∈ l, ∀ c, o.op ≠ .defer c := by
  intro o ho c hc
  have := List.all_eq_true.1 h o ho
  rw [hc] at this
  cases this
theorem name_size {s : ByteArray} (h : nameB s.data.toList = true) : s.size ≤ 12 := by
  unfold nameB at h
  simp only [Bool.and_eq_true, decide_eq_true_eq] at h
  have := h.1.2
  rw [Array.length_toList] at this
  exact this
set_option maxRecDepth 100000 in
set_option maxHeartbeats 4000000 in
theorem apart_any (mA cA : Option Addr) (mk : List ByteArray) (cl : List Cl) (mc cc : Nat) (bg : Int) (B i k : Nat) (w : World) (hR : RightB mk bg cl) (hat : BkAt w mA mk cA cl)
    (hB : w.heap[B]? = some (BKo mA mk.length mc bg cA cl.length cc)) (hi : i < cl.length) (hk : k < cl.length) :
    Calls Tryz.prog 54 #[.int .i64 i, .int .i64 k, .pointer (some ⟨B, 0, none⟩)] w fun e w' => e = .returned (.bool ((bfsB (bothC cl cl) mk.length (i, k) (pairsU cl.length cl.length).length).any fun p => dif cl cl p.1)) ∧ Below w.heap.size w w' := by
  refine (callsIn_wide (n := 6)).1 ?_
  refine callsIn_of_wp_marks Tryz.func54 rfl trivial ?_ rfl
  simp only [Tryz.ntmps54, List.size_toArray, List.length_cons, List.length_nil, Nat.reduceAdd, Nat.reduceSub, Array.replicate_succ, Array.replicate_zero, List.push_toArray, List.append_toArray, List.nil_append, List.cons_append]
  have hB' := Lib.hid hB
  unfold BKo at hB
  have C1 := bk3 hB
  have hBs := bk_size hB
  obtain ⟨M, hM⟩ : ∃ M, mk.length = M := ⟨_, rfl⟩
  obtain ⟨N, hN⟩ : ∃ N, cl.length = N := ⟨_, rfl⟩
  rw [hM, hN] at C1
  gi_wp2_with (refine ⟨trivial, ?_⟩; gi_at_call 35; refine (callsIn_wide.2 (search35_any _ _ _ _ _ _ _)).mono ?_; rintro e w1 ⟨rfl, rfl⟩)
  refine wpIn_world ?_
  intro W hW_W
  have hb_W : Below w.heap.size w W := by rw [hW_W]; go_grown
  have hsW : W.heap.size = w.heap.size + 4 := by rw [hW_W]; simp
  have R0 : W.heap[w.heap.size]? = some (.cells #[.bool false] 4 (0, 0)) := by rw [hW_W]; (repeat (first | assumption | (refine bk_new _ _ ?_; (simp; done)) | refine bk_drew ?_ | refine bk_alloc ?_ _ | refine bk_set ?_ (by simp <;> omega) _))
  have P1 : W.heap[w.heap.size + 1]? = some (.cells #[.int .i64 i, .int .i64 k] 77 (0, 0)) := by rw [hW_W]; (repeat (first | assumption | (refine bk_new _ _ ?_; (simp; done)) | refine bk_drew ?_ | refine bk_alloc ?_ _ | refine bk_set ?_ (by simp <;> omega) _))
  have P2 : W.heap[w.heap.size + 1 + 1]? = some (.cells #[.int .i64 M] 3 (0, 0)) := by rw [hW_W]; (repeat (first | assumption | (refine bk_new _ _ ?_; (simp; done)) | refine bk_drew ?_ | refine bk_alloc ?_ _ | refine bk_set ?_ (by simp <;> omega) _))
  have P3 : W.heap[w.heap.size + 1 + 2]? = some (.cells #[.func (.func 55) #[] #[.pointer (some ⟨B, 0, none⟩)]] 78 (0, 0)) := by rw [hW_W]; (repeat (first | assumption | (refine bk_new _ _ ?_; (simp; done)) | refine bk_drew ?_ | refine bk_alloc ?_ _ | refine bk_set ?_ (by simp <;> omega) _))
  clear hW_W
  have hU : ∀ s ∈ pairsU cl.length cl.length, ∀ a, a < M → bothC cl cl s a ∈ pairsU cl.length cl.length := fun s hs a ha => by
    rw [mem_pairsU] at hs ⊢
    exact ⟨nxC_lt hR hs.1 (by omega), nxC_lt hR hs.2 (by omega)⟩
  have hbU : ((i, k) : Nat × Nat) ∈ pairsU cl.length cl.length := mem_pairsU.2 ⟨hi, hk⟩
  have hN8 := hR.c1
  have hM6 := hR.m1
  have hUl : (pairsU cl.length cl.length).length ≤ 100 := by
    rw [pairsU_len]
    have : cl.length * cl.length ≤ 8 * 8 := Nat.mul_le_mul hN8.2 hN8.2
    omega
  have hstops := search2_stops 5 (bothC cl cl) M (i, k) (pairsU cl.length cl.length) hbU hU hUl (by omega) (w.heap.size + 1) (w.heap.size + 1 + 1) (w.heap.size + 1 + 2) 55 #[] #[.pointer (some ⟨B, 0, none⟩)] (· = w.heap.size) W (bk2 P1).1 (bk2 P1).2.1 (bk1 P2).1 (bk1 P3).1 (by omega) (by omega) (by omega) (by rintro k rfl; omega) (enters_of Tryz.func55 (by kernel_rfl) rfl) (fun s hs a ha W' hl => by
    have hk : ∀ j, j < w.heap.size → W'.heap[j]? = w.heap[j]? := fun j hj => (hl.same j (by omega) (by omega)).trans (hb_W.block j hj)
    rw [mem_pairsU] at hs
    exact twice_any mA cA mk cl mc cc bg B s.1 s.2 a W' hR (hat.kept hk) ((hk B hBs).trans hB'.out) hs.1 hs.2 (by omega))
  have hl0 : Lie (· = w.heap.size) W W := Lie.refl _ _
  refine wp_rangeW rfl (by omega) (gf := 60) (lb := #[.pointer (some ⟨w.heap.size + 1, 0, none⟩), .pointer (some ⟨w.heap.size + 1 + 1, 0, none⟩), .pointer (some ⟨w.heap.size + 1 + 2, 0, none⟩)]) rfl trivial (enters_of Tryz.func60 (by kernel_rfl) rfl) hstops (by rintro k rfl; omega) (fun _ => rfl)
    (fun pre T W' => Below w.heap.size w W' ∧ W'.heap[w.heap.size]? = some (.cells #[.bool false] 4 (0, 0)) ∧ w.heap.size + 4 ≤ W'.heap.size ∧ ∀ p ∈ pre, dif cl cl p.st = false)
    (fun c pre T W' => c = .ret ∧ Below w.heap.size w W' ∧ W'.heap[w.heap.size]? = some (.cells #[.bool true] 4 (0, 0)) ∧ ∃ p ∈ pre, dif cl cl p.st = true)
    (fun pre T x a W' => ∃ Bx, w.heap.size + 4 ≤ Bx ∧ (Below w.heap.size w W' ∧ W'.heap[w.heap.size]? = some (.cells #[.bool false] 4 (0, 0)) ∧ w.heap.size + 4 ≤ W'.heap.size ∧ ∀ p ∈ pre, dif cl cl p.st = false) ∧ W'.heap[Bx]? = some (.cells #[.int .i64 x.st.1, .int .i64 x.st.2, .slice x.A x.wd.length x.c] 82 (0, 0)) ∧ x.st.1 < cl.length ∧ x.st.2 < cl.length ∧
      a = { tmps := #[.int .i64 i, .int .i64 k, .pointer (some ⟨B, 0, none⟩), undef, undef, .pointer (some ⟨w.heap.size, 0, none⟩), .func (.func 55) #[] #[.pointer (some ⟨B, 0, none⟩)], .pointer (some ⟨Bx, 0, none⟩), .func (.func 55) #[] #[.pointer (some ⟨B, 0, none⟩)], .int .i64 i, .int .i64 k, .agg #[.int .i64 i, .int .i64 k], .pointer (some ⟨B, 0, none⟩), .pointer (some ⟨B, 0, none⟩), .slice mA M mc, .int .i64 M, .func (.func 55) #[] #[.pointer (some ⟨B, 0, none⟩)], .func (.func 60) #[] #[.pointer (some ⟨w.heap.size + 1, 0, none⟩), .pointer (some ⟨w.heap.size + 1 + 1, 0, none⟩), .pointer (some ⟨w.heap.size + 1 + 2, 0, none⟩)], .agg #[.int .i64 x.st.1, .int .i64 x.st.2, .slice x.A x.wd.length x.c], undef, undef, undef, undef, undef, undef, undef, undef, undef, undef, undef], defers := [] })
    ?hI ?hIx ?hAx ?h0 ?assign ?body ?done ?stop
  case hI =>
    rintro s T A W' row ⟨h1, h2, h3, h4⟩ hg hr
    refine ⟨h1.grown hg h1.size (fun r e => by have := (hr r e).1; omega), ?_, by have := hg.size; omega, h4⟩
    rw [hg.block _ (bk_size h2) (fun e => by have := (hr _ e.symm).1; omega)]
    exact h2
  case hIx =>
    rintro c s T A W' row ⟨h0, h1, h2, h4⟩ hg hr
    refine ⟨h0, h1.grown hg h1.size (fun r e => by have := (hr r e).1; omega), ?_, h4⟩
    rw [hg.block _ (bk_size h2) (fun e => by have := (hr _ e.symm).1; omega)]
    exact h2
  case hAx =>
    rintro pre T x a W' l o o' hl hT hgv ho hc ⟨Bx, hBx, ⟨h1, h2, h3, h4⟩, h5, h6⟩
    have hg := grownBy_putObj' W' l o'
    refine ⟨Bx, hBx, ⟨h1.grown hg h1.size (fun r e => by cases e; omega), ?_, by rw [World.putObj_size]; exact h3, h4⟩, ?_, h6⟩
    · rw [World.putObj_heap_other (by omega)]
      exact h2
    · rw [World.putObj_heap_other]
      · exact h5
      · rintro rfl
        rw [h5] at ho
        cases ho
        cases hc
  case h0 => exact ⟨hb_W, R0, by omega, fun p hp => by cases hp⟩
  case assign =>
    rintro l pre T x W' ⟨h1, h2, h3, h4⟩ hT hlen ⟨hpre, hxat⟩ -
    have hxU := key_mem hbU hU hpre
    rw [mem_pairsU] at hxU
    have hb' := new_below W' (.cells #[.int .i64 x.st.1, .int .i64 x.st.2, .slice x.A x.wd.length x.c] 82)
    unfold encG
    gi_wp2
    refine ⟨.of_below _ hb', W'.heap.size, h3, ⟨via h1 hb', bk_keep hb' h2, by simp; omega, h4⟩, bk_new _ _ rfl, hxU.1, hxU.2, rfl⟩
  case body =>
    rintro l pre T x a W' ⟨Bx, hBx, ⟨h1, h2, h3, h4⟩, hXb, hx1, hx2, rfl⟩ hT hlen
    have hX := bk3 hXb
    have hXs := bk_size hXb
    have hBW := bk_keep h1 hB'.out
    have hBr := bk3 hBW
    unfold BKo at hBr
    have hBrs := bk_size hBW
    have hRk1 := Lib.hid fun W2 (hb : Below w.heap.size w W2) => rank_any mA cA mk cl mc cc bg x.st.1 W2 (by omega) (fun y hy => by have := name_size (hR.nm y hy); omega) (hat.below hb).cls hx1
    have hRk2 := Lib.hid fun W2 (hb : Below w.heap.size w W2) => rank_any mA cA mk cl mc cc bg x.st.2 W2 (by omega) (fun y hy => by have := name_size (hR.nm y hy); omega) (hat.below hb).cls hx2
    have hq : Hid ((!((rkC cl x.st.1).toList == (rkC cl x.st.2).toList)) = dif cl cl x.st) := rfl
    obtain ⟨r1, hr1⟩ : ∃ r, rkC cl x.st.1 = r := ⟨_, rfl⟩
    obtain ⟨r2, hr2⟩ : ∃ r, rkC cl x.st.2 = r := ⟨_, rfl⟩
    rw [hr1] at hRk1 hq
    rw [hr2] at hRk2 hq
    rw [hM, hN] at hRk1 hRk2 hBr
    have hsnoc : ∀ {Pp : Nat × Nat → Prop}, (∀ p ∈ pre, Pp p.st) → Pp x.st → ∀ p ∈ pre ++ [x], Pp p.st := fun hp hx p hp' => by
      rcases List.mem_append.1 hp' with h | h
      · exact hp p h
      · rw [List.mem_singleton] at h
        rw [h]
        exact hx
    generalize x.st.1 = s1 at *
    generalize x.st.2 = s2 at *
    gi_wp2_with fail
    refine region_all_round w (by kernel_rfl) (by kernel_rfl) (noDefer (by kernel_rfl)) h1 ?_
    intro hgc hbx
    repeat (go_big_quiet_step (first | (go_at_call 36; first | with_reducible exact Grew.call (hRk1.out _ (hbx.out _)) | with_reducible exact Grew.call (hRk2.out _ (hbx.out _)))))
    refine wpQuiet_nil ?_
    intro wb hb_wb hw_wb hs_wb
    clear hgc hbx
    have R1 := bk_keep hb_wb h2
    have hR1 := bk1 R1
    have hlw : ∀ r, T r → T r ∨ W'.heap.size ≤ r := fun r h => .inl h
    have hKx := hsnoc (Pp := fun p => dif cl cl p = false) h4
    have hx' := Lib.hid hKx
    clear hKx hsnoc
    gi_wp2_with fail
    · rename_i hd
      have hd2 := hq.out.symm.trans hd
      refine ⟨T, hlw, fun r hr => ?_, ?_, rfl, ?_, ?_, ⟨x, by simp, hd2⟩⟩
      · have := (hT r hr).2
        have := hb_wb.size
        simp
        omega
      · exact ((Lie.of_below (fun k => k = w.heap.size ∨ T k) hb_wb)).trans (Lie.setCell _ _ (.inl rfl))
      · have h7 := via h1 hb_wb
        go_grown
      · exact bk_here R1 _ rfl
    · rename_i hd
      have hd2 := hq.out.symm.trans hd
      exact ⟨T, hlw, fun r hr => Nat.lt_of_lt_of_le (hT r hr).2 hb_wb.size, .of_below _ hb_wb, via h1 hb_wb, R1, by have := hb_wb.size; omega, hx'.out hd2⟩
  case done =>
    rintro D xs T W' hS ⟨h1, h2, h3, h4⟩ rfl hK
    have R1 := bk1 h2
    have hany : (bfsB (bothC cl cl) M (i, k) (pairsU cl.length cl.length).length).any (fun p => dif cl cl p.1) = false := by
      rw [← hS, List.any_map, List.any_eq_false]
      intro p hp
      simp only [Function.comp_apply]
      rw [show (Fd.key p).1 = p.st from rfl, h4 p hp]
      decide
    gi_wp2
    have hK2 : (W'.setCell ⟨w.heap.size, 0, none⟩ (.bool false)).heap[W.heap.size]? = some (.deferred (some [])) := (Below.heap_setCell W' _ _ _ (by dsimp only; omega)).trans hK
    have R2 := bk_here h2 (.bool false) rfl (o := 0)
    have hbb : Below w.heap.size w (W'.setCell ⟨w.heap.size, 0, none⟩ (.bool false)) := by go_grown
    refine ⟨by simp, .inl ⟨_, _, rfl, run_takeDeferred hK2, ?_⟩⟩
    refine ⟨.bool false, ?_, by rw [hM, hany], hbb.grown (grownBy_putObj' _ _ _) hbb.size (fun r e => by cases e; omega)⟩
    have R3 : ((W'.setCell ⟨w.heap.size, 0, none⟩ (.bool false)).putObj W.heap.size (.deferred none)).heap[w.heap.size]? = some (.cells #[.bool false] 4 (0, 0)) := (World.putObj_heap_other (by omega)).trans R2
    have R4 := bk1 R3
    generalize (W'.setCell ⟨w.heap.size, 0, none⟩ (.bool false)).putObj _ _ = W9 at *
    simp [results, Tryz.results54, go_sem, R4]
  case stop =>
    rintro D c pre T W' hS ⟨rfl, h1, h2, p, hp, hd⟩ rfl hK
    have R1 := bk1 h2
    have hany : (bfsB (bothC cl cl) M (i, k) (pairsU cl.length cl.length).length).any (fun p => dif cl cl p.1) = true := by
      rw [List.any_eq_true]
      exact ⟨p.key, hS.subset (List.mem_map.2 ⟨p, hp, rfl⟩), hd⟩
    gi_wp2
    refine ⟨by simp, .inl ⟨_, _, rfl, run_takeDeferred hK, ?_⟩⟩
    refine ⟨.bool true, ?_, by rw [hM, hany], h1.grown (grownBy_putObj' _ _ _) h1.size (fun r e => by cases e; omega)⟩
    have R3 : (W'.putObj W.heap.size (.deferred none)).heap[w.heap.size]? = some (.cells #[.bool true] 4 (0, 0)) := (World.putObj_heap_other (by omega)).trans h2
    have R4 := bk1 R3
    generalize W'.putObj _ _ = W9 at *
    simp [results, Tryz.results54, go_sem, R4]
end Go.Proofs

set_option linter.unusedSimpArgs false
set_option linter.unusedVariables false
namespace Go.Proofs
open Go.RowKit

/-! The sets of alike classes. -/
def alC (m : Nat) (cl : List Cl) (i k : Nat) : Bool := !((bfsB (bothC cl cl) m (i, k) (pairsU cl.length cl.length).length).any fun p => dif cl cl p.1)
set_option maxRecDepth 100000 in
set_option maxHeartbeats 1000000 in
theorem alikeFn_any (mA cA : Option Addr) (mk : List ByteArray) (cl : List Cl) (mc cc : Nat) (bg : Int) (B P3 P6 i k : Nat) (w : World) (hR : RightB mk bg cl) (hat : BkAt w mA mk cA cl)
    (hB : w.heap[B]? = some (BKo mA mk.length mc bg cA cl.length cc)) (h3 : w.heap[P3]? = some (.cells #[.func (.func 54) #[] #[.pointer (some ⟨B, 0, none⟩)]] 102 (0, 0))) (h6 : w.heap[P6]? = some (.cells #[.int .i64 i] 3 (0, 0))) (hi : i < cl.length) (hk : k < cl.length) :
    Calls Tryz.prog 57 #[.int .i64 k, .pointer (some ⟨P3, 0, none⟩), .pointer (some ⟨P6, 0, none⟩)] w fun e w' => e = .returned (.bool (alC mk.length cl i k)) ∧ Below w.heap.size w w' := by
  have hA := Lib.hid (apart_any mA cA mk cl mc cc bg B i k w hR hat hB hi hk)
  unfold alC
  generalize ((bfsB (bothC cl cl) mk.length (i, k) (pairsU cl.length cl.length).length).any fun p => dif cl cl p.1) = q at *
  have C3 := bk1 h3
  have C6 := bk1 h6
  clear hR hat hB
  cases q
  all_goals
    go_enter Tryz.func57, Tryz.ntmps57
    go_wp2_with (go_at_call 54; refine hA.out.mono ?_; rintro e w1 ⟨rfl, hb⟩)
    go_ret
    exact ⟨rfl, hb⟩
set_option maxRecDepth 100000 in
set_option maxHeartbeats 2000000 in
theorem indexAlike_any (mA cA : Option Addr) (mk : List ByteArray) (cl : List Cl) (mc cc : Nat) (bg : Int) (B P3 P6 i : Nat) (A : Option Addr) (l : List Nat) (c : Nat) (w : World) (hR : RightB mk bg cl) (hat : BkAt w mA mk cA cl)
    (hB : w.heap[B]? = some (BKo mA mk.length mc bg cA cl.length cc)) (h3 : w.heap[P3]? = some (.cells #[.func (.func 54) #[] #[.pointer (some ⟨B, 0, none⟩)]] 102 (0, 0))) (h6 : w.heap[P6]? = some (.cells #[.int .i64 i] 3 (0, 0))) (hi : i < cl.length)
    (hl : l.length ≤ 100) (hlk : ∀ k ∈ l, k < cl.length) (hal : At 1 Nc w A l) :
    Calls Tryz.prog 56 #[.slice A l.length c, .func (.func 57) #[] #[.pointer (some ⟨P3, 0, none⟩), .pointer (some ⟨P6, 0, none⟩)]] w fun e w' => e = .returned (.int .i64 (match l.findIdx? (fun k => alC mk.length cl i k) with | some n => (n : Int) | none => -1)) ∧ Below w.heap.size w w' := by
  have hC := Lib.hid fun (k : Nat) W (hb : Below w.heap.size w W) (hk : k < cl.length) => alikeFn_any mA cA mk cl mc cc bg B P3 P6 i k W hR (hat.below hb) (bk_keep hb hB) (bk_keep hb h3) (bk_keep hb h6) hi hk
  have hal' := Lib.hid hal
  have hlk' := Lib.hid hlk
  obtain ⟨p, hp⟩ : ∃ p : Nat → Bool, (fun k => alC mk.length cl i k) = p := ⟨_, rfl⟩
  have hC2 : Hid (∀ (k : Nat) W (hb : Below w.heap.size w W) (hk : k < cl.length), Calls Tryz.prog 57 #[.int .i64 k, .pointer (some ⟨P3, 0, none⟩), .pointer (some ⟨P6, 0, none⟩)] W fun e w' => e = .returned (.bool (p k)) ∧ Below W.heap.size W w') := fun k W hb hk => by
    rw [← hp]
    exact hC.out k W hb hk
  rw [hp]
  obtain ⟨R, hRr⟩ : ∃ R : Int, (match l.findIdx? p with | some n => (n : Int) | none => -1) = R := ⟨_, rfl⟩
  have hRr' := Lib.hid hRr
  rw [hRr]
  obtain ⟨m, hm⟩ : ∃ n, l.length = n := ⟨_, rfl⟩
  have hm' := Lib.hid hm
  rw [hm] at hl ⊢
  clear hR hat hB h3 h6 hal hlk hp hRr hm hC
  go_enter Tryz.func56, Tryz.ntmps56
  go_wp2_with fail
  go_loopw [8] (fun i wr => ∃ k : Nat, k ≤ m ∧ i = .int .i64 k ∧ Hid (∀ y ∈ l.take k, p y = false) ∧ Below w.heap.size w wr) (fun i _ => m - (intOf i).toNat)
  case atStart => exact ⟨0, Nat.zero_le _, rfl, fun y hy => by simp at hy, Below.refl _ _⟩
  case round =>
    obtain ⟨k, hk, rfl, hno, hbw⟩ := hrel
    by_cases hlt : k < m
    · obtain ⟨y, hy⟩ : ∃ y, l[k]? = some y := ⟨_, List.getElem?_eq_getElem (by rw [hm'.out]; exact hlt)⟩
      obtain ⟨b, o, rfl, hbb, hc⟩ := hal'.out.below hbw k y hy
      have hCy := Lib.hid (hC2.out y wr hbw (hlk'.out y (List.mem_of_getElem? hy)))
      obtain ⟨q, hq⟩ : ∃ q, p y = q := ⟨_, rfl⟩
      rw [hq] at hCy
      have y0 := hc 0 _ rfl
      simp only [Nat.add_zero, Nat.mul_one] at y0
      have hkI : (k : Int) < (m : Int) := by omega
      cases q
      · have hnext : Hid (∀ y ∈ l.take (k + 1), p y = false) := by
          obtain ⟨hk', he⟩ := List.getElem?_eq_some_iff.1 hy
          intro z hz
          rw [List.take_succ_eq_append_getElem hk', he] at hz
          rcases List.mem_append.1 hz with hz | hz
          · exact hno.out z hz
          · rw [List.mem_singleton] at hz
            rw [hz]
            exact hq
        clear hc hy hq hno
        go_wp2_with (go_at_call 57; refine (hCy.out).mono ?_; rintro e w1 ⟨rfl, hb⟩; have hbw := via hbw hb)
        go_roundw
        case rel => exact ⟨k + 1, by omega, by go_num, hnext, hbw⟩
        case measure => simp [intOf]; omega
      · have ht : (k : Int) = R := by
          rw [← hRr'.out]
          have : l.findIdx? p = some k := by
            obtain ⟨hk', he⟩ := List.getElem?_eq_some_iff.1 hy
            rw [List.findIdx?_eq_some_iff_getElem]
            refine ⟨hk', by rw [he]; exact hq, fun j hj => ?_⟩
            have := hno.out l[j] (by
              rw [List.mem_take_iff_getElem]
              exact ⟨j, by omega, rfl⟩)
            rw [this]
            decide
          rw [this]
        clear hRr'
        subst ht
        clear hc hy hq hno
        go_wp2_with (go_at_call 57; refine (hCy.out).mono ?_; rintro e w1 ⟨rfl, hb⟩; have hbw := via hbw hb)
        go_ret
        exact ⟨rfl, hbw⟩
    · have hkn : k = m := by omega
      subst hkn
      have ht : (-1 : Int) = R := by
        rw [← hRr'.out]
        have : l.findIdx? p = none := by
          rw [List.findIdx?_eq_none_iff]
          have := hno.out
          rwa [List.take_of_length_le (by rw [hm'.out]; exact Nat.le_refl _)] at this
        rw [this]
      clear hRr'
      subst ht
      go_wp2
      go_ret
      exact ⟨rfl, hbw⟩
theorem from_any (mA cA : Option Addr) (m mc n cc : Nat) (bg : Int) (s : Int) (w : World) :
    Calls Tryz.prog 25 #[.agg #[.slice mA m mc, .int .i64 bg, .slice cA n cc], .int .i64 s] w fun e w' => e = .returned (.func (.func 58) #[] #[.pointer (some ⟨w.heap.size + 1, 0, none⟩), .pointer (some ⟨w.heap.size + 1 + 1, 0, none⟩), .pointer (some ⟨w.heap.size + 1 + 2, 0, none⟩)]) ∧
      (((w.alloc (BKo mA m mc bg cA n cc)).alloc (.cells #[.int .i64 s] 3)).alloc (.cells #[.int .i64 m] 3)).alloc (.cells #[.func (.func 28) #[.agg #[.slice mA m mc, .int .i64 bg, .slice cA n cc]] #[]] 73) = w' := by
  have hmf : ∀ (fn : Fn) (first cap : Array Value) (w : World), (Instr.makeFunc fn first cap).run Tryz.prog w = .ok (.func fn first cap) w := fun _ _ _ _ => rfl
  unfold BKo
  go_enter Tryz.func25, Tryz.ntmps25
  go_wp2_with (go_at_call 26; refine (search26_any _ _ _ _ _ _).mono ?_; rintro e w1 ⟨rfl, rfl⟩)
  go_ret
  exact ⟨by simp, rfl⟩
end Go.Proofs
