import Derived.Test.YtbikblifpfokaaaGreatDoorMg30
import Derived.Test.YtbikblifpfokaaaGreatDoorMg15
import Derived.Test.YtbikblifpfokaaaGreatDoorMg11
import Derived.Test.YtbikblifpfokaaaGreatDoorMg25
set_option linter.unusedSimpArgs false
set_option linter.unusedVariables false
namespace Go.Proofs
open Go.RowKit

theorem run_mk2 (w : World) : (Instr.makeSlice 26 (.int .i64 2) (.int .i64 2)).run Tryz.prog w = .ok (.slice (some ⟨w.heap.size, 0, none⟩) 2 2) (w.alloc (.cells #[.int .i64 0, .int .i64 0] 3 (0, 0))) := by
  have h1 : IntKind.i64.wrap 2 = 2 := by decide
  have h2 : Tryz.t3.bytes = 8 := by kernel_rfl
  simp [Instr.makeSlice, go_sem, Tryz.underlying26, h1, h2]
def kA : Nat → Nat → Int
  | 0, k => if k ≤ 3 then 0 else 1
  | _, _ => 1
def kB : Nat → Nat → Int
  | 0, k => if k ≤ 1 then 0 else 1
  | 1, k => if k ≤ 1 then 1 else if k ≤ 3 then 2 else 3
  | _, _ => 3
set_option maxRecDepth 100000 in
set_option maxHeartbeats 2000000 in
theorem counts_ok (g r0 r1 t L : Nat) (w : World) (hP : PanW w g r0 r1 t) (hL : w.heap[L]? = some (.cells #[.int .i64 0, .int .i64 1] 3 (0, 0))) :
    Calls Tryz.prog 73 #[.agg #[.int .i64 2, .int .i64 2, .slice (some ⟨g, 0, none⟩) 5 5, .slice (some ⟨t, 0, none⟩) 2 2], .int .i64 1, .slice (some ⟨L, 0, none⟩) 2 2] w fun e w' => ∃ k, w.heap.size ≤ k ∧ e = .returned (.slice (some ⟨k, 0, none⟩) 2 2) ∧ Below w.heap.size w w' ∧ w'.heap[k]? = some (.cells #[.int .i64 1, .int .i64 3] 3 (0, 0)) := by
  have hP' := Lib.hid hP
  have hL' := Lib.hid hL
  have hm := run_mk2
  clear hP hL
  go_enter Tryz.func73, Tryz.ntmps73
  go_wp2_with fail
  have hw0 : Below w.heap.size w ((w.alloc (.cells #[.int .i64 2, .int .i64 2, .slice (some ⟨g, 0, none⟩) 5 5, .slice (some ⟨t, 0, none⟩) 2 2] 95 (0, 0))).alloc (.cells #[.int .i64 0, .int .i64 0] 3 (0, 0))) := by go_grown
  have E0 := bk_alloc (bk_new w (.cells #[.int .i64 2, .int .i64 2, .slice (some ⟨g, 0, none⟩) 5 5, .slice (some ⟨t, 0, none⟩) 2 2] 95 (0, 0)) rfl) (.cells #[.int .i64 0, .int .i64 0] 3 (0, 0))
  have E1 : ((w.alloc (.cells #[.int .i64 2, .int .i64 2, .slice (some ⟨g, 0, none⟩) 5 5, .slice (some ⟨t, 0, none⟩) 2 2] 95 (0, 0))).alloc (.cells #[.int .i64 0, .int .i64 0] 3 (0, 0))).heap[w.heap.size + 1]? = some (.cells #[.int .i64 (kA 0 0), .int .i64 (kB 0 0)] 3 (0, 0)) := by
    have := bk_new (w.alloc (.cells #[.int .i64 2, .int .i64 2, .slice (some ⟨g, 0, none⟩) 5 5, .slice (some ⟨t, 0, none⟩) 2 2] 95 (0, 0))) (.cells #[.int .i64 0, .int .i64 0] 3 (0, 0)) rfl
    rwa [World.size_alloc] at this
  go_loopw [18] (fun j wr => ∃ i : Nat, i ≤ 2 ∧ j = .int .i64 i ∧ Below w.heap.size w wr ∧ wr.heap[w.heap.size]? = some (.cells #[.int .i64 2, .int .i64 2, .slice (some ⟨g, 0, none⟩) 5 5, .slice (some ⟨t, 0, none⟩) 2 2] 95 (0, 0)) ∧ wr.heap[w.heap.size + 1]? = some (.cells #[.int .i64 (kA i 0), .int .i64 (kB i 0)] 3 (0, 0))) (fun j _ => 2 - (intOf j).toNat)
  case atStart => exact ⟨0, by omega, rfl, hw0, E0, E1⟩
  case round =>
    clear E0 E1 hw0 hm
    obtain ⟨i, hi, rfl, hbw, B0, B1⟩ := hrel
    have hP2 := hP'.out.below hbw
    have hLb := bk_keep hbw hL'.out
    have lc := bk2 hLb
    have ls := bk_size hLb
    have c1 := bk4 B0
    have s1 := bk_size B0
    have tc := bk2 hP2.ts
    have tsz := bk_size hP2.ts
    by_cases hlt : i < 2
    · have hi01 : i = 0 ∨ i = 1 := by omega
      rcases hi01 with rfl | rfl
      · go_wp2_with fail
        go_loopw [29] (fun j wi => ∃ k : Nat, k ≤ 5 ∧ j = .int .i64 k ∧ Below w.heap.size w wi ∧ wi.heap[w.heap.size]? = some (.cells #[.int .i64 2, .int .i64 2, .slice (some ⟨g, 0, none⟩) 5 5, .slice (some ⟨t, 0, none⟩) 2 2] 95 (0, 0)) ∧ wi.heap[w.heap.size + 1]? = some (.cells #[.int .i64 (kA 0 k), .int .i64 (kB 0 k)] 3 (0, 0))) (fun j _ => 5 - (intOf j).toNat)
        case atStart => exact ⟨0, by omega, rfl, hbw, B0, B1⟩
        case round =>
          clear B0 B1 hbw c1 s1 tc tsz hP2 hLb lc ls
          obtain ⟨k, hk, rfl, hbi, C0, C1⟩ := hrel
          have hP2 := hP'.out.below hbi
          have c1 := bk4 C0
          have s1 := bk_size C0
          have d1 := bk2 C1
          have s2 := bk_size C1
          have gc := bk5 hP2.gs
          have gsz := bk_size hP2.gs
          have ac := bk5 hP2.a0
          have asz := bk_size hP2.a0
          have hk5 : k = 0 ∨ k = 1 ∨ k = 2 ∨ k = 3 ∨ k = 4 ∨ k = 5 := by omega
          rcases hk5 with rfl | rfl | rfl | rfl | rfl | rfl
          all_goals
            simp only [kA, kB, Nat.reduceLeDiff, if_true, if_false] at d1
            go_wp2_with fail
            go_roundw
          case rel => exact ⟨1, by decide, rfl, hbi, C0, C1⟩
          case rel => exact ⟨2, by decide, rfl, below_in hbi (Nat.le_succ _) _, bk_set C0 (by simp) _, bk_here C1 _ rfl⟩
          case rel => exact ⟨3, by decide, rfl, hbi, C0, C1⟩
          case rel => exact ⟨4, by decide, rfl, below_in hbi (Nat.le_succ _) _, bk_set C0 (by simp) _, bk_here C1 _ rfl⟩
          case rel => exact ⟨5, by decide, rfl, hbi, C0, C1⟩
          case rel => exact ⟨0 + 1, by decide, rfl, hbi, C0, C1⟩
          all_goals simp [intOf]
      · go_wp2_with fail
        go_loopw [29] (fun j wi => ∃ k : Nat, k ≤ 5 ∧ j = .int .i64 k ∧ Below w.heap.size w wi ∧ wi.heap[w.heap.size]? = some (.cells #[.int .i64 2, .int .i64 2, .slice (some ⟨g, 0, none⟩) 5 5, .slice (some ⟨t, 0, none⟩) 2 2] 95 (0, 0)) ∧ wi.heap[w.heap.size + 1]? = some (.cells #[.int .i64 (kA 1 k), .int .i64 (kB 1 k)] 3 (0, 0))) (fun j _ => 5 - (intOf j).toNat)
        case atStart => exact ⟨0, by omega, rfl, hbw, B0, B1⟩
        case round =>
          clear B0 B1 hbw c1 s1 tc tsz hP2 hLb lc ls
          obtain ⟨k, hk, rfl, hbi, C0, C1⟩ := hrel
          have hP2 := hP'.out.below hbi
          have c1 := bk4 C0
          have s1 := bk_size C0
          have d1 := bk2 C1
          have s2 := bk_size C1
          have gc := bk5 hP2.gs
          have gsz := bk_size hP2.gs
          have ac := bk5 hP2.a1
          have asz := bk_size hP2.a1
          have hk5 : k = 0 ∨ k = 1 ∨ k = 2 ∨ k = 3 ∨ k = 4 ∨ k = 5 := by omega
          rcases hk5 with rfl | rfl | rfl | rfl | rfl | rfl
          all_goals
            simp only [kA, kB, Nat.reduceLeDiff, if_true, if_false] at d1
            go_wp2_with fail
            go_roundw
          case rel => exact ⟨1, by decide, rfl, hbi, C0, C1⟩
          case rel => exact ⟨2, by decide, rfl, below_in hbi (Nat.le_succ _) _, bk_set C0 (by simp) _, bk_here C1 _ rfl⟩
          case rel => exact ⟨3, by decide, rfl, hbi, C0, C1⟩
          case rel => exact ⟨4, by decide, rfl, below_in hbi (Nat.le_succ _) _, bk_set C0 (by simp) _, bk_here C1 _ rfl⟩
          case rel => exact ⟨5, by decide, rfl, hbi, C0, C1⟩
          case rel => exact ⟨1 + 1, by decide, rfl, hbi, C0, C1⟩
          all_goals simp [intOf]
    · have hi2 : i = 2 := by omega
      subst hi2
      go_wp2_with fail
      refine bodyPost_ret (v := .slice (some ⟨w.heap.size + 1, 0, none⟩) 2 2) ?_ rfl ⟨w.heap.size + 1, Nat.le_succ _, rfl, hbw, B1⟩
      simp [results, Tryz.results73, go_sem]
end Go.Proofs

set_option linter.unusedSimpArgs false
set_option linter.unusedVariables false
namespace Go.Proofs
open Go.RowKit

set_option maxRecDepth 100000 in
set_option maxHeartbeats 2000000 in
theorem mark_ok (g r0 r1 t L : Nat) (w : World) (hP : PanW w g r0 r1 t) (hL : w.heap[L]? = some (.cells #[.int .i64 0, .int .i64 1] 3 (0, 0))) :
    Calls Tryz.prog 49 #[.agg #[.int .i64 2, .int .i64 2, .slice (some ⟨g, 0, none⟩) 5 5, .slice (some ⟨t, 0, none⟩) 2 2], .int .i64 1, .slice (some ⟨L, 0, none⟩) 2 2] w fun e w' => e = .returned (.int .i64 1) ∧ Below w.heap.size w w' := by
  have hC := Lib.hid fun W (hb : Below w.heap.size w W) => counts_ok g r0 r1 t L W (hP.below hb) (bk_keep hb hL)
  have two : ∀ (k : Nat) (W : World), W.heap[k]? = some (.cells #[.int .i64 1, .int .i64 3] 3 (0, 0)) → ∀ j, j < ([1, 3] : List Int).length → W.cell? ⟨k, 0 + j, none⟩ = some (.int .i64 (([1, 3] : List Int).getD j 0)) := by
    intro k W h j hj
    have h2 := bk2 h
    match j, hj with
    | 0, _ => exact h2.1
    | 1, _ => exact h2.2.1
  have hM := Lib.hid fun (k : Nat) (W : World) (h : W.heap[k]? = some (.cells #[.int .i64 1, .int .i64 3] 3 (0, 0))) => Tryz.slices_Max_int k 0 2 2 [1, 3] W (by decide) (by decide) (by decide) (two k W h)
  have hI := Lib.hid fun (k : Nat) (W : World) (h : W.heap[k]? = some (.cells #[.int .i64 1, .int .i64 3] 3 (0, 0))) => Tryz.slices_Index_int k 0 2 2 [1, 3] 3 W (by decide) (by decide) (two k W h)
  have hE := Lib.hid fun (a : Option Addr) (W : World) => Tryz.slices_Contains_int_empty a 0 3 W
  rw [show Lib.maxOf (([1, 3] : List Int).take 2) = 3 by decide] at hM
  rw [show Lib.idxOf (([1, 3] : List Int).take 2) 3 = 1 by decide] at hI
  clear hP hL two
  go_enter Tryz.func49, Tryz.ntmps49
  go_wp2_with (first
    | (go_at_call 73; refine (hC.out _ (by go_grown)).mono ?_; rintro e w1 ⟨k, hk, rfl, hb1, hK⟩; have hw1 := via (by go_grown : Below w.heap.size w _) hb1; have hc := bk2 hK; have hs := bk_size hK)
    | (go_at_call 74; refine (hM.out _ _ hK).mono ?_; rintro e w' ⟨rfl, rfl⟩)
    | (go_at_call 75; refine (hI.out _ _ hK).mono ?_; rintro e w' ⟨rfl, rfl⟩)
    | (go_at_call 76; refine (hE.out _ _).mono ?_; rintro e w' ⟨rfl, rfl⟩))
  go_ret
  exact ⟨rfl, hw1⟩
set_option maxRecDepth 100000 in
set_option maxHeartbeats 2000000 in
theorem markOf_ok (g r0 r1 t L : Nat) (w : World) (hP : PanW w g r0 r1 t) (hL : w.heap[L]? = some (.cells #[.int .i64 0, .int .i64 1] 3 (0, 0))) :
    Calls Tryz.prog 19 #[.agg #[.int .i64 2, .int .i64 2, .slice (some ⟨g, 0, none⟩) 5 5, .slice (some ⟨t, 0, none⟩) 2 2], .int .i64 1, .slice (some ⟨L, 0, none⟩) 2 2] w fun e w' => e = .returned (.tuple #[.int .i64 1, .int .i64 0]) ∧ Below w.heap.size w w' := by
  have hO := Lib.hid fun W (hb : Below w.heap.size w W) => openTasters_ok g r0 r1 t L W (hP.below hb) (bk_keep hb hL)
  have hM := Lib.hid fun W (hb : Below w.heap.size w W) => mark_ok g r0 r1 t L W (hP.below hb) (bk_keep hb hL)
  clear hP hL
  go_enter Tryz.func19, Tryz.ntmps19
  go_wp2_with (first
    | (go_at_call 48; refine (hO.out _ (by go_grown)).mono ?_; rintro e w1 ⟨rfl, hb1⟩; have hw1 := via (by go_grown : Below w.heap.size w _) hb1; have hs1 := hw1.size)
    | (go_at_call 49; refine (hM.out _ (by go_grown)).mono ?_; rintro e w2 ⟨rfl, hb2⟩; have hw2 := via (by go_grown : Below w.heap.size w _) hb2))
  refine bodyPost_ret (v := .tuple #[.int .i64 1, .int .i64 0]) ?_ rfl ⟨rfl, hw2⟩
  simp [results, Tryz.results19, go_sem]
set_option maxRecDepth 100000 in
set_option maxHeartbeats 2000000 in
theorem panel_any (w : World) :
    Calls Tryz.prog 20 #[] w fun e w' => (∃ g r0 r1 t, e = .returned (.agg #[.int .i64 2, .int .i64 2, .slice (some ⟨g, 0, none⟩) 5 5, .slice (some ⟨t, 0, none⟩) 2 2]) ∧ PanW w' g r0 r1 t) ∧ Below w.heap.size w w' := by
  go_enter Tryz.func20, Tryz.ntmps20
  go_wp2
  refine bodyPost_ret (v := .agg #[.int .i64 2, .int .i64 2, .slice (some ⟨w.heap.size + 1, 0, none⟩) 5 5, .slice (some ⟨w.heap.size + 1 + 1 + 1 + 1, 0, none⟩) 2 2]) ?_ rfl ⟨⟨w.heap.size + 1, w.heap.size + 1 + 1, w.heap.size + 1 + 1 + 1, w.heap.size + 1 + 1 + 1 + 1, rfl, ?_, ?_, ?_, ?_⟩, by go_grown⟩
  · simp [results, Tryz.results20, go_sem]
  all_goals (repeat (first | assumption | (refine bk_new _ _ ?_; (simp; done)) | refine bk_drew ?_ | refine bk_alloc ?_ _ | refine bk_set ?_ (by simp <;> omega) _))
theorem at_obj {α : Type} {sz : Nat} {cs : α → List Value} (hsz : ∀ x, (cs x).length = sz) {w : World} {b ty : Nat} (l : List α) (h : w.heap[b]? = some (.cells (l.flatMap cs).toArray ty (0, 0))) : At sz cs w (some ⟨b, 0, none⟩) l := by
  intro k x hx
  refine ⟨b, 0, rfl, bk_size h, fun j v hv => ?_⟩
  rw [bk_cell h, List.getElem?_toArray, Nat.zero_add]
  clear h
  induction l generalizing k with
  | nil => cases hx
  | cons y l ih =>
    rw [List.flatMap_cons]
    cases k with
    | zero =>
      simp only [List.getElem?_cons_zero, Option.some.injEq] at hx
      subst hx
      rw [List.getElem?_append_left (by have := (List.getElem?_eq_some_iff.1 hv).1; omega)]
      simpa using hv
    | succ k =>
      rw [List.getElem?_append_right (by rw [hsz, Nat.succ_mul]; omega), hsz]
      have := ih k (by simpa using hx)
      rwa [show (k + 1) * sz + j - sz = k * sz + j by rw [Nat.succ_mul]; omega]
def sS (l : List UInt8) : ByteArray := ⟨l.toArray⟩
def exMk : List ByteArray := [⟨#[114, 97, 121, 97]⟩, ⟨#[112, 97, 108, 109, 97]⟩]
def exCl (b : Nat) : List Cl := [
  ⟨⟨#[109, 111, 115, 116, 111]⟩, some ⟨b + 2, 0, none⟩, [1, 2], 2, some ⟨b + 3, 0, none⟩, [⟨#[102, 97, 116]⟩, ⟨#[116, 104, 105, 110]⟩], 2⟩,
  ⟨⟨#[111, 108, 111, 114, 111, 115, 111]⟩, some ⟨b + 4, 0, none⟩, [1, 1], 2, some ⟨b + 5, 0, none⟩, [⟨#[107, 101, 101, 112]⟩, ⟨#[107, 101, 101, 112]⟩], 2⟩,
  ⟨⟨#[102, 105, 110, 111]⟩, some ⟨b + 6, 0, none⟩, [1, 2], 2, some ⟨b + 7, 0, none⟩, [⟨#[102, 97, 108, 108, 101, 110]⟩, ⟨#[107, 101, 101, 112]⟩], 2⟩]
theorem exRight (b : Nat) : RightB exMk 0 (exCl b) where
  m1 := by decide
  c1 := by
    show 0 < 3 ∧ 3 ≤ 8
    decide
  mn := by decide +kernel
  md := by decide +kernel
  bg := by
    show (0 : Int) ≤ 0 ∧ (0 : Int) ≤ ((3 : Nat) : Int) - 1
    decide
  nm := by
    intro x hx
    simp only [exCl, List.mem_cons, List.not_mem_nil, or_false] at hx
    rcases hx with rfl | rfl | rfl <;> (dsimp only; decide +kernel)
  cd := by
    simp only [exCl, List.pairwise_cons, List.mem_cons, List.not_mem_nil, or_false]
    refine ⟨?_, ?_, ?_, List.Pairwise.nil⟩
    · rintro x (rfl | rfl) <;> (dsimp only; decide +kernel)
    · rintro x rfl
      dsimp only
      decide +kernel
    · intro x hx
      exact hx.elim
  sh := by
    intro x hx
    simp only [exCl, List.mem_cons, List.not_mem_nil, or_false] at hx
    rcases hx with rfl | rfl | rfl <;> exact ⟨rfl, rfl⟩
  nx := by
    intro x hx
    simp only [exCl, List.mem_cons, List.not_mem_nil, or_false] at hx
    rcases hx with rfl | rfl | rfl <;> (dsimp only; change ∀ y ∈ _, _ ∧ _ ≤ ((3 : Nat) : Int) - 1; decide)
  rn := by
    intro x hx
    simp only [exCl, List.mem_cons, List.not_mem_nil, or_false] at hx
    rcases hx with rfl | rfl | rfl <;> (dsimp only; decide +kernel)
set_option maxRecDepth 100000 in
set_option maxHeartbeats 2000000 in
theorem rules_any (w : World) :
    Calls Tryz.prog 18 #[] w fun e w' => (∃ b, e = .returned (.agg #[.slice (some ⟨b + 1, 0, none⟩) exMk.length 2, .int .i64 (0 : Nat), .slice (some ⟨b + 8, 0, none⟩) (exCl b).length 3]) ∧ BkAt w' (some ⟨b + 1, 0, none⟩) exMk (some ⟨b + 8, 0, none⟩) (exCl b)) ∧ Below w.heap.size w w' := by
  go_enter Tryz.func18, Tryz.ntmps18
  go_wp2
  simp only [Nat.add_assoc, Nat.reduceAdd]
  refine bodyPost_ret (v := .agg #[.slice (some ⟨w.heap.size + 1, 0, none⟩) exMk.length 2, .int .i64 (0 : Nat), .slice (some ⟨w.heap.size + 8, 0, none⟩) (exCl w.heap.size).length 3]) ?_ rfl ⟨⟨w.heap.size, rfl, ?_, ?_, ?_, ?_⟩, by go_grown⟩
  · simp [results, Tryz.results18, go_sem, exMk, exCl]
  · exact at_obj (cs := Sc) (sz := 1) (ty := 9) (fun _ => rfl) exMk (by show _ = some (Obj.cells #[.string ⟨#[114, 97, 121, 97]⟩, .string ⟨#[112, 97, 108, 109, 97]⟩] 9 (0, 0)); (repeat (first | assumption | (refine bk_new _ _ ?_; (simp; done)) | refine bk_drew ?_ | refine bk_alloc ?_ _ | refine bk_set ?_ (by simp <;> omega) _)))
  · exact at_obj (cs := Cl.cs) (sz := 3) (ty := 57) (fun _ => rfl) (exCl w.heap.size) (by
      show _ = some (Obj.cells #[.string ⟨#[109, 111, 115, 116, 111]⟩, .slice (some ⟨w.heap.size + 2, 0, none⟩) 2 2, .slice (some ⟨w.heap.size + 3, 0, none⟩) 2 2, .string ⟨#[111, 108, 111, 114, 111, 115, 111]⟩, .slice (some ⟨w.heap.size + 4, 0, none⟩) 2 2, .slice (some ⟨w.heap.size + 5, 0, none⟩) 2 2, .string ⟨#[102, 105, 110, 111]⟩, .slice (some ⟨w.heap.size + 6, 0, none⟩) 2 2, .slice (some ⟨w.heap.size + 7, 0, none⟩) 2 2] 57 (0, 0))
      (repeat (first | assumption | (refine bk_new _ _ ?_; (simp; done)) | refine bk_drew ?_ | refine bk_alloc ?_ _ | refine bk_set ?_ (by simp <;> omega) _)))
  · intro x hx
    simp only [exCl, List.mem_cons, List.not_mem_nil, or_false] at hx
    rcases hx with rfl | rfl | rfl
    · exact at_obj (cs := Ic) (sz := 1) (ty := 3) (fun _ => rfl) [1, 2] (by show _ = some (Obj.cells #[.int .i64 1, .int .i64 2] 3 (0, 0)); (repeat (first | assumption | (refine bk_new _ _ ?_; (simp; done)) | refine bk_drew ?_ | refine bk_alloc ?_ _ | refine bk_set ?_ (by simp <;> omega) _)))
    · exact at_obj (cs := Ic) (sz := 1) (ty := 3) (fun _ => rfl) [1, 1] (by show _ = some (Obj.cells #[.int .i64 1, .int .i64 1] 3 (0, 0)); (repeat (first | assumption | (refine bk_new _ _ ?_; (simp; done)) | refine bk_drew ?_ | refine bk_alloc ?_ _ | refine bk_set ?_ (by simp <;> omega) _)))
    · exact at_obj (cs := Ic) (sz := 1) (ty := 3) (fun _ => rfl) [1, 2] (by show _ = some (Obj.cells #[.int .i64 1, .int .i64 2] 3 (0, 0)); (repeat (first | assumption | (refine bk_new _ _ ?_; (simp; done)) | refine bk_drew ?_ | refine bk_alloc ?_ _ | refine bk_set ?_ (by simp <;> omega) _)))
  · intro x hx
    simp only [exCl, List.mem_cons, List.not_mem_nil, or_false] at hx
    rcases hx with rfl | rfl | rfl
    · exact at_obj (cs := Sc) (sz := 1) (ty := 9) (fun _ => rfl) [⟨#[102, 97, 116]⟩, ⟨#[116, 104, 105, 110]⟩] (by show _ = some (Obj.cells #[.string ⟨#[102, 97, 116]⟩, .string ⟨#[116, 104, 105, 110]⟩] 9 (0, 0)); (repeat (first | assumption | (refine bk_new _ _ ?_; (simp; done)) | refine bk_drew ?_ | refine bk_alloc ?_ _ | refine bk_set ?_ (by simp <;> omega) _)))
    · exact at_obj (cs := Sc) (sz := 1) (ty := 9) (fun _ => rfl) [⟨#[107, 101, 101, 112]⟩, ⟨#[107, 101, 101, 112]⟩] (by show _ = some (Obj.cells #[.string ⟨#[107, 101, 101, 112]⟩, .string ⟨#[107, 101, 101, 112]⟩] 9 (0, 0)); (repeat (first | assumption | (refine bk_new _ _ ?_; (simp; done)) | refine bk_drew ?_ | refine bk_alloc ?_ _ | refine bk_set ?_ (by simp <;> omega) _)))
    · exact at_obj (cs := Sc) (sz := 1) (ty := 9) (fun _ => rfl) [⟨#[102, 97, 108, 108, 101, 110]⟩, ⟨#[107, 101, 101, 112]⟩] (by show _ = some (Obj.cells #[.string ⟨#[102, 97, 108, 108, 101, 110]⟩, .string ⟨#[107, 101, 101, 112]⟩] 9 (0, 0)); (repeat (first | assumption | (refine bk_new _ _ ?_; (simp; done)) | refine bk_drew ?_ | refine bk_alloc ?_ _ | refine bk_set ?_ (by simp <;> omega) _)))
end Go.Proofs

set_option linter.unusedSimpArgs false
set_option linter.unusedVariables false
namespace Go.Proofs
open Go.RowKit

theorem exRun (b : Nat) : runW (nxC (exCl b)) 0 [1, 1, 0] = 1 := rfl
theorem exName (b : Nat) : clN (exCl b) 1 = ⟨#[111, 108, 111, 114, 111, 115, 111]⟩ := rfl
set_option maxRecDepth 100000 in
set_option maxHeartbeats 2000000 in
theorem tasted_any (w : World) :
    Calls Tryz.prog 4 #[] w fun e w' => e = .returned (.bool true) ∧ Below w.heap.size w w' := by
  have hR := Lib.hid fun W => rules_any W
  have hC := Lib.hid fun (b A : Nat) (W : World) (h1 : BkAt W (some ⟨b + 1, 0, none⟩) exMk (some ⟨b + 8, 0, none⟩) (exCl b)) (h2 : W.heap[A]? = some (.cells #[.int .i64 1, .int .i64 1, .int .i64 0] 3 (0, 0))) =>
    classOf_ok (some ⟨b + 1, 0, none⟩) (some ⟨b + 8, 0, none⟩) exMk (exCl b) 2 3 0 ⟨#[98, 117, 116, 116]⟩ (some ⟨A, 0, none⟩) [1, 1, 0] 3 W (exRight b) h1 (by decide) (by decide) (by decide +kernel) (by decide) (at_obj (cs := Nc) (sz := 1) (ty := 3) (fun _ => rfl) [1, 1, 0] h2) (by decide)
  simp only [exRun, exName] at hC
  have hP := Lib.hid fun W => panel_any W
  have hM := Lib.hid fun (g r0 r1 t A : Nat) (W : World) (h1 : PanW W g r0 r1 t) (h2 : W.heap[A]? = some (.cells #[.int .i64 0, .int .i64 1] 3 (0, 0))) => markOf_ok g r0 r1 t A W h1 h2
  go_enter Tryz.func4, Tryz.ntmps4
  go_wp2_with (first
    | (go_at_call 18; refine (hR.out _).mono ?_; rintro e w1 ⟨⟨b, rfl, hbk⟩, hb1⟩; have hw1 := via (by go_grown : Below w.heap.size w _) hb1; have hbk' := hbk.below (new_below w1 (.cells #[.int .i64 1, .int .i64 1, .int .i64 0] 3 (0, 0))); have hw1' := via_alloc hw1 (.cells #[.int .i64 1, .int .i64 1, .int .i64 0] 3 (0, 0)); have hA := bk_new w1 (.cells #[.int .i64 1, .int .i64 1, .int .i64 0] 3 (0, 0)) rfl)
    | (go_at_call 16; refine (hC.out b _ _ hbk' hA).mono ?_; rintro e w2 ⟨rfl, hb2⟩; have hw2 := via hw1' hb2)
    | (go_at_call 20; refine (hP.out _).mono ?_; rintro e w3 ⟨⟨g, r0, r1, t, rfl, hpn⟩, hb3⟩; have hw3 := via hw2 hb3; have hpn' := hpn.below (new_below w3 (.cells #[.int .i64 0, .int .i64 1] 3 (0, 0))); have hw3' := via_alloc hw3 (.cells #[.int .i64 0, .int .i64 1] 3 (0, 0)); have hA3 := bk_new w3 (.cells #[.int .i64 0, .int .i64 1] 3 (0, 0)) rfl)
    | (go_at_call 19; refine (hM.out g r0 r1 t _ _ hpn' hA3).mono ?_; rintro e w4 ⟨rfl, hb4⟩; have hw4 := via hw3' hb4))
  go_ret
  exact ⟨rfl, hw4⟩
end Go.Proofs
