import Derived.Test.YtjfdjjekonkgjaaCf
import Derived.Test.YtjfdjjekonkgjaaCc
import Derived.Test.YtjfdjjekonkgjaaZb
set_option linter.unusedSimpArgs false
set_option linter.unusedVariables false
namespace Go.Proofs
open Go.RowKit

theorem wp_ent {P : Program} {o : Oper} {a : Act} {x x' : World} {f : FuncId} {args : Array Value} {K : Act → World → Prop} {Q : Exit → Act → World → Prop} (hr : (execOp a.eval o).run P x = .ok (.enter f args) x')
    (h : Calls P f args x' fun e w' => ∃ v, e = .returned v ∧ K (a.put o.dst v) w') : o.wp P a x K Q := by
  unfold Oper.wp
  rw [hr]
  unfold Oper.upon
  refine h.mono ?_
  rintro e w' ⟨v, rfl, hk⟩
  exact hk
theorem netOfE_bad {l0 l1 : Int} {rs : List Rd} {ms : List Mv} {cask : ByteArray} {a b : Int} (h : (checkB l0 l1 rs ms).2 ≠ 0) : netOfE l0 l1 rs ms cask a b = (checkB l0 l1 rs ms).2 := by
  unfold netOfE
  simp [firstE, h]
theorem netOfV_bad {l0 l1 : Int} {rs : List Rd} {ms : List Mv} {cask : ByteArray} {a b : Int} (h : (checkB l0 l1 rs ms).2 ≠ 0) : netOfV l0 l1 rs ms cask a b = 0 := by
  unfold netOfV
  rw [if_neg (by rw [netOfE_bad h]; exact h)]

def NetJ (w : World) (o0 o1 o2 : Obj) (n : Nat) (x : World) : Prop := Below w.heap.size w x ∧ x.heap[w.heap.size]? = some o0 ∧ x.heap[w.heap.size + 1]? = some o1 ∧ x.heap[n]? = some o2
theorem NetJ.below {w : World} {o0 o1 o2 : Obj} {n : Nat} {x x' : World} (h : NetJ w o0 o1 o2 n x) (hb : Below x.heap.size x x') : NetJ w o0 o1 o2 n x' := ⟨via h.1 hb, bk_keep hb h.2.1, bk_keep hb h.2.2.1, bk_keep hb h.2.2.2⟩
def BookV (l0 l1 : Int) (rs : List Rd) (ms : List Mv) (v : Value) (x : World) : Prop := ∃ A c A2 c2, v = .agg #[.int .i64 l0, .int .i64 l1, .slice A rs.length c, .slice A2 ms.length c2] ∧ At 4 Rd.cs x A rs ∧ At 4 Mv.cs x A2 ms
def NetF (l0 l1 : Int) (rs : List Rd) (ms : List Mv) (u : Value) (cask : ByteArray) (a b V E : Int) (s : Nat) (v : Value) (x : World) : Prop :=
  if s = 33 then BookV l0 l1 rs ms v x
  else if s = 32 then v = u
  else if s = 34 then v = .string cask
  else if s = 35 then v = .agg #[.int .i64 a, .int .i64 b]
  else if s = 36 ∨ s = 31 then v = .tuple #[.int .i64 V, .int .i64 E]
  else if s = 37 ∨ s = 9 then v = .int .i64 V
  else v = .int .i64 E
theorem BookV.below {l0 l1 : Int} {rs : List Rd} {ms : List Mv} {v : Value} {x x' : World} (h : BookV l0 l1 rs ms v x) (hb : Below x.heap.size x x') : BookV l0 l1 rs ms v x' := by
  obtain ⟨A, c, A2, c2, e, h1, h2⟩ := h
  exact ⟨A, c, A2, c2, e, h1.below hb, h2.below hb⟩
theorem NetF.below {l0 l1 : Int} {rs : List Rd} {ms : List Mv} {u : Value} {cask : ByteArray} {a b V E : Int} {s : Nat} {v : Value} {x x' : World} (h : NetF l0 l1 rs ms u cask a b V E s v x) (hb : Below x.heap.size x x') : NetF l0 l1 rs ms u cask a b V E s v x' := by
  unfold NetF at *
  split
  · rw [if_pos (by assumption)] at h; exact h.below hb
  · rw [if_neg (by assumption)] at h; exact h

set_option maxRecDepth 100000 in
set_option maxHeartbeats 4000000 in
theorem gaugeBooks_walk (w : World) (l0 l1 : Int) (A A2 : Option Addr) (rs : List Rd) (ms : List Mv) (c c2 : Nat)
    (_ : -9223372036854775808 ≤ l0) (_ : l0 ≤ 9223372036854775807) (_ : -9223372036854775808 ≤ l1) (_ : l1 ≤ 9223372036854775807)
    (hat : At 4 Rd.cs w A rs) (_ : rs.length ≤ c) (_ : A = none → c = 0) (hs : ∀ x ∈ rs, x.c.size ≤ maxLen) (hat2 : At 4 Mv.cs w A2 ms) (_ : ms.length ≤ c2) (_ : A2 = none → c2 = 0) (hs2 : ∀ x ∈ ms, x.f.size ≤ maxLen ∧ x.t.size ≤ maxLen)
    (cask : ByteArray) (hsc : cask.size ≤ maxLen) (a b : Int) (_ : -9223372036854775808 ≤ a) (_ : a ≤ 9223372036854775807) (_ : -9223372036854775808 ≤ b) (_ : b ≤ 9223372036854775807) :
    Calls Try.prog 6 #[.agg #[.int .i64 l0, .int .i64 l1, .slice A rs.length c, .slice A2 ms.length c2], .string cask, .agg #[.int .i64 a, .int .i64 b]] w fun e w' => e = .returned (.bool true) ∧ Below w.heap.size w w' := by
  unfold maxLen at hs hs2 hsc
  have hFew := Lib.hid fun W (hb : Below w.heap.size w W) => few_any l0 l1 A A2 rs ms c c2 W hs (hat.below hb) hs2 (hat2.below hb)
  have hChk := Lib.hid fun A A2 c c2 W (h1 : At 4 Rd.cs W A rs) (h2 : At 4 Mv.cs W A2 ms) => checkBook_any l0 l1 A A2 rs ms c c2 W hs h1 hs2 h2
  have hNet := Lib.hid fun A A2 c c2 W (h1 : At 4 Rd.cs W A rs) (h2 : At 4 Mv.cs W A2 ms) => netOf_any l0 l1 A A2 rs ms c c2 cask a b W hs h1 hs2 h2 hsc
  have hRef := Lib.hid fun W (hb : Below w.heap.size w W) => refCheckBook_any l0 l1 A A2 rs ms c c2 W hs (hat.below hb) hs2 (hat2.below hb)
  have hRNet := Lib.hid fun (h : (checkB l0 l1 rs ms).2 = 0) W (hb : Below w.heap.size w W) => refNetOf_any l0 l1 A A2 rs ms c c2 cask a b W h (hat2.below hb) hsc
  have hCpy := Lib.hid fun (h1 : rs.length ≤ 1000) (h2 : ms.length ≤ 1000) W (hb : Below w.heap.size w W) => copyBook_any l0 l1 A A2 rs ms c c2 W h1 h2 (hat.below hb) (hat2.below hb)
  have hbad1 : Hid ((checkB l0 l1 rs ms).2 ≠ 0 → netOfE l0 l1 rs ms cask a b = (checkB l0 l1 rs ms).2) := fun h => netOfE_bad h
  have hbad2 : Hid ((checkB l0 l1 rs ms).2 ≠ 0 → netOfV l0 l1 rs ms cask a b = 0) := fun h => netOfV_bad h
  have hat' := Lib.hid hat
  have hat2' := Lib.hid hat2
  generalize checkB l0 l1 rs ms = V0 at *
  obtain ⟨⟨k1, k2⟩, d⟩ := V0
  unfold bval at hChk hRef
  dsimp only at hChk hRef hRNet hbad1 hbad2
  obtain ⟨V, hV⟩ : ∃ V, netOfV l0 l1 rs ms cask a b = V := ⟨_, rfl⟩
  obtain ⟨E, hE⟩ : ∃ E, netOfE l0 l1 rs ms cask a b = E := ⟨_, rfl⟩
  rw [hV, hE] at hNet hRNet
  rw [hE] at hbad1
  rw [hV] at hbad2
  clear hV hE hat hat2 hs hs2 hsc
  go_enter Try.func6, Try.ntmps6
  go_wp2_with (first | (go_at_call 15; refine (awake_any _).mono ?_; rintro e w1 ⟨rfl, hb⟩; have hbw := via (by go_grown : Below w.heap.size w _) hb; have B0 : w1.heap[w.heap.size]? = some (.cells #[.int .i64 l0, .int .i64 l1, .slice A rs.length c, .slice A2 ms.length c2] 49 (0, 0)) := bk_keep hb (by (repeat (first | assumption | exact bk_new _ _ (by simp) | refine bk_drew ?_ | refine bk_alloc ?_ _ | refine bk_set ?_ (by simp <;> omega) _))); have B1 : w1.heap[w.heap.size + 1]? = some (.cells #[.int .i64 a, .int .i64 b] 42 (0, 0)) := bk_keep hb (by (repeat (first | assumption | exact bk_new _ _ (by simp) | refine bk_drew ?_ | refine bk_alloc ?_ _ | refine bk_set ?_ (by simp <;> omega) _))); have C0 := bk4 B0; have C1 := bk2 B1))
  refine (hFew.out _ hbw).mono ?_
  rintro e w2 ⟨⟨r, rfl, hr⟩, hb⟩
  have hbw := via hbw hb; replace B0 := bk_keep hb B0; replace B1 := bk_keep hb B1; replace C0 := bk4 B0; replace C1 := bk2 B1
  cases r with
  | false =>
    clear hr
    go_wp2_with fail
    refine bodyPost_ret (v := .bool true) ?_ rfl ⟨rfl, ?_⟩
    · simp [results, Try.results6, go_sem]
    · go_grown
  | true =>
  obtain ⟨g1, g2, -, -⟩ := hr rfl
  replace hCpy := Lib.hid (hCpy.out (by omega) (by omega))
  clear hr g1 g2
  by_cases h20 : 20 < (cask.size : Int)
  · go_wp2_with fail
    refine bodyPost_ret (v := .bool true) ?_ rfl ⟨rfl, ?_⟩
    · simp [results, Try.results6, go_sem]
    · go_grown
  go_wp2_with (first | (go_at_call 28; refine (hCpy.out _ hbw).mono ?_; rintro e w3 ⟨⟨A3, c3, B3, d3, rfl, h3, h4⟩, hb⟩; have hbw := via hbw hb; replace B0 := bk_keep hb B0; replace B1 := bk_keep hb B1; replace C0 := bk4 B0; replace C1 := bk2 B1) | (go_at_call 27; refine (hChk.out _ _ _ _ _ h3 h4).mono ?_; rintro e w4 ⟨rfl, hb⟩; have hbw := via hbw hb; replace B0 := bk_keep hb B0; replace B1 := bk_keep hb B1; replace C0 := bk4 B0; replace C1 := bk2 B1))
  refine wp_world ?_
  intro W5 hW_W5
  have hb_W5 : Below w.heap.size w W5 := by rw [hW_W5]; go_grown
  have D0 : W5.heap[w.heap.size]? = some (.cells #[.int .i64 l0, .int .i64 l1, .slice A rs.length c, .slice A2 ms.length c2] 49 (0, 0)) := by rw [hW_W5]; (repeat (first | assumption | exact bk_new _ _ (by simp) | refine bk_drew ?_ | refine bk_alloc ?_ _ | refine bk_set ?_ (by simp <;> omega) _))
  have D1 : W5.heap[w.heap.size + 1]? = some (.cells #[.int .i64 a, .int .i64 b] 42 (0, 0)) := by rw [hW_W5]; (repeat (first | assumption | exact bk_new _ _ (by simp) | refine bk_drew ?_ | refine bk_alloc ?_ _ | refine bk_set ?_ (by simp <;> omega) _))
  have D2 : W5.heap[w4.heap.size]? = some (.cells #[.int .i64 k1, .int .i64 k2] 52 (0, 0)) := by
    rw [hW_W5]
    exact bk_new _ _ rfl
  have hn4 : w.heap.size ≤ w4.heap.size := hbw.size
  clear hW_W5 hb hbw B0 B1 C0 C1 h3 h4 h20
  refine region_rg (NetJ w (.cells #[.int .i64 l0, .int .i64 l1, .slice A rs.length c, .slice A2 ms.length c2] 49 (0, 0)) (.cells #[.int .i64 a, .int .i64 b] 42 (0, 0)) (.cells #[.int .i64 k1, .int .i64 k2] 52 (0, 0)) w4.heap.size) (fun x x' => Below x.heap.size x x') (NetF l0 l1 rs ms (.agg #[.int .i64 l0, .int .i64 l1, .slice A rs.length c, .slice A2 ms.length c2]) cask a b V E) (by kernel_rfl) (by kernel_rfl) (by kernel_rfl) (by kernel_rfl) ?hJ (fun s v x x' _ g h => h.below g) ?hstep ?hend
  case hJ => exact NetJ.below (x := W5) ⟨hb_W5, D0, D1, D2⟩ (Below.drew (Below.refl _ _))
  case hstep =>
    intro o ho
    simp only [List.mem_cons, List.not_mem_nil, or_false] at ho
    rcases ho with rfl | rfl | rfl | rfl | rfl | rfl | rfl | rfl | rfl | rfl
    all_goals intro y x hJ hlook
    · have h1 := hlook 3 (List.contains_iff_mem.1 (by kernel_rfl))
      simp at h1
      try obtain ⟨v1, e1, h1⟩ := h1
      try unfold NetF at h1
      try simp at h1
      have C := bk4 hJ.2.1
      refine wp_val (v := .agg #[.int .i64 l0, .int .i64 l1, .slice A rs.length c, .slice A2 ms.length c2]) (x' := x) (by simp [execOp, go_sem, Act.eval, h1, C]) ⟨hJ, Below.refl _ _, _, rfl, ?_⟩
      intro d hd
      simp at hd
      subst hd
      unfold NetF
      try simp
    · have h1 := hlook 32 (List.contains_iff_mem.1 (by kernel_rfl))
      simp at h1
      try obtain ⟨v1, e1, h1⟩ := h1
      try unfold NetF at h1
      try simp at h1
      subst h1
      refine wp_ent (f := 28) (args := #[.agg #[.int .i64 l0, .int .i64 l1, .slice A rs.length c, .slice A2 ms.length c2]]) (x' := x) (by simp [execOp, go_sem, Act.eval, e1]) ((hCpy.out _ hJ.1).mono ?_)
      rintro e w' ⟨⟨A3, c3, B3, d3, rfl, h3, h4⟩, hb⟩
      refine ⟨_, rfl, hJ.below hb, hb, _, rfl, ?_⟩
      intro d hd
      simp at hd
      subst hd
      unfold NetF
      try simp
      exact ⟨A3, c3, B3, d3, rfl, h3, h4⟩
    · have h1 := hlook 1 (List.contains_iff_mem.1 (by kernel_rfl))
      simp at h1
      try obtain ⟨v1, e1, h1⟩ := h1
      try unfold NetF at h1
      try simp at h1
      refine wp_val (v := .string cask) (x' := x) (by simp [execOp, go_sem, Act.eval, h1]) ⟨hJ, Below.refl _ _, _, rfl, ?_⟩
      intro d hd
      simp at hd
      subst hd
      unfold NetF
      try simp
    · have h1 := hlook 5 (List.contains_iff_mem.1 (by kernel_rfl))
      simp at h1
      try obtain ⟨v1, e1, h1⟩ := h1
      try unfold NetF at h1
      try simp at h1
      have C := bk2 hJ.2.2.1
      refine wp_val (v := .agg #[.int .i64 a, .int .i64 b]) (x' := x) (by simp [execOp, go_sem, Act.eval, h1, C]) ⟨hJ, Below.refl _ _, _, rfl, ?_⟩
      intro d hd
      simp at hd
      subst hd
      unfold NetF
      try simp
    · have h1 := hlook 33 (List.contains_iff_mem.1 (by kernel_rfl))
      simp at h1
      try obtain ⟨v1, e1, h1⟩ := h1
      try unfold NetF at h1
      try simp at h1
      have h2 := hlook 34 (List.contains_iff_mem.1 (by kernel_rfl))
      simp at h2
      try obtain ⟨v2, e2, h2⟩ := h2
      try unfold NetF at h2
      try simp at h2
      have h3 := hlook 35 (List.contains_iff_mem.1 (by kernel_rfl))
      simp at h3
      try obtain ⟨v3, e3, h3⟩ := h3
      try unfold NetF at h3
      try simp at h3
      obtain ⟨A3, c3, B3, d3, rfl, p3, p4⟩ := h1
      subst h2 h3
      refine wp_ent (f := 29) (args := #[.agg #[.int .i64 l0, .int .i64 l1, .slice A3 rs.length c3, .slice B3 ms.length d3], .string cask, .agg #[.int .i64 a, .int .i64 b]]) (x' := x) (by simp [execOp, go_sem, Act.eval, e1, e2, e3]) ((hNet.out _ _ _ _ _ p3 p4).mono ?_)
      rintro e w' ⟨rfl, hb⟩
      refine ⟨_, rfl, hJ.below hb, hb, _, rfl, ?_⟩
      intro d hd
      simp at hd
      subst hd
      unfold NetF
      try simp
    · have h1 := hlook 36 (List.contains_iff_mem.1 (by kernel_rfl))
      simp at h1
      try obtain ⟨v1, e1, h1⟩ := h1
      try unfold NetF at h1
      try simp at h1
      subst h1
      refine wp_val (v := .tuple #[.int .i64 V, .int .i64 E]) (x' := x) (by simp [execOp, go_sem, Act.eval, e1]) ⟨hJ, Below.refl _ _, _, rfl, ?_⟩
      intro d hd
      simp at hd
      subst hd
      unfold NetF
      try simp
    · have h1 := hlook 31 (List.contains_iff_mem.1 (by kernel_rfl))
      simp at h1
      try obtain ⟨v1, e1, h1⟩ := h1
      try unfold NetF at h1
      try simp at h1
      subst h1
      refine wp_val (v := .int .i64 V) (x' := x) (by simp [execOp, go_sem, Act.eval, e1]) ⟨hJ, Below.refl _ _, _, rfl, ?_⟩
      intro d hd
      simp at hd
      subst hd
      unfold NetF
      try simp
    · have h1 := hlook 31 (List.contains_iff_mem.1 (by kernel_rfl))
      simp at h1
      try obtain ⟨v1, e1, h1⟩ := h1
      try unfold NetF at h1
      try simp at h1
      subst h1
      refine wp_val (v := .int .i64 E) (x' := x) (by simp [execOp, go_sem, Act.eval, e1]) ⟨hJ, Below.refl _ _, _, rfl, ?_⟩
      intro d hd
      simp at hd
      subst hd
      unfold NetF
      try simp
    · have h1 := hlook 37 (List.contains_iff_mem.1 (by kernel_rfl))
      simp at h1
      try obtain ⟨v1, e1, h1⟩ := h1
      try unfold NetF at h1
      try simp at h1
      subst h1
      refine wp_val (v := .int .i64 V) (x' := x) (by simp [execOp, go_sem, Act.eval, e1]) ⟨hJ, Below.refl _ _, _, rfl, ?_⟩
      intro d hd
      simp at hd
      subst hd
      unfold NetF
      try simp
    · have h1 := hlook 38 (List.contains_iff_mem.1 (by kernel_rfl))
      simp at h1
      try obtain ⟨v1, e1, h1⟩ := h1
      try unfold NetF at h1
      try simp at h1
      subst h1
      refine wp_val (v := .int .i64 E) (x' := x) (by simp [execOp, go_sem, Act.eval, e1]) ⟨hJ, Below.refl _ _, _, rfl, ?_⟩
      intro d hd
      simp at hd
      subst hd
      unfold NetF
      try simp
  case hend =>
    intro vs x hJ hvs
    simp only [List.mem_cons, List.not_mem_nil, or_false, forall_eq_or_imp, forall_eq] at hvs
    obtain ⟨-, -, -, -, -, -, -, -, h9, h10⟩ := hvs
    have e9 := h9 9 rfl
    have e10 := h10 10 rfl
    unfold NetF at e9 e10
    simp at e9 e10
    simp only [putAll, Act.put, List.setIfInBounds_toArray, List.set_cons_succ, List.set_cons_zero, e9, e10]
    obtain ⟨hbw, B0, B1, M⟩ := hJ
    have C0 := bk4 B0
    have C1 := bk2 B1
    have CM := bk2 M
    clear h9 h10 e9 e10 hb_W5 D0 D1 D2
    by_cases hd : d = 0
    · subst hd
      replace hRNet := Lib.hid (hRNet.out rfl)
      clear hbad1 hbad2
      go_wp2_with (first | (go_at_call 30; refine (hRef.out _ hbw).mono ?_; rintro e w6 ⟨rfl, hb⟩; have hbw := via hbw hb; replace B0 := bk_keep hb B0; replace B1 := bk_keep hb B1; replace C0 := bk4 B0; replace C1 := bk2 B1; replace M := bk_keep hb M; replace CM := bk2 M) | (go_at_call 31; refine (hRNet.out _ (by go_grown)).mono ?_; rintro e w7 ⟨rfl, hb⟩; have hbw := via (by go_grown : Below w.heap.size w _) hb))
      refine bodyPost_ret (v := .bool true) ?_ rfl ⟨rfl, ?_⟩
      · simp [results, Try.results6, go_sem]
      · go_grown
    · have hE := hbad1.out hd
      have hV := hbad2.out hd
      subst hV
      rw [hE]
      have z2 : (d != 0) = true := by simpa using hd
      clear hbad1 hbad2 hE
      go_wp2_with (first | (go_at_call 30; refine (hRef.out _ hbw).mono ?_; rintro e w6 ⟨rfl, hb⟩; have hbw := via hbw hb; replace B0 := bk_keep hb B0; replace B1 := bk_keep hb B1; replace C0 := bk4 B0; replace C1 := bk2 B1; replace M := bk_keep hb M; replace CM := bk2 M))
      refine bodyPost_ret (v := .bool true) ?_ rfl ⟨rfl, ?_⟩
      · simp [results, Try.results6, go_sem]
      · go_grown
end Go.Proofs
