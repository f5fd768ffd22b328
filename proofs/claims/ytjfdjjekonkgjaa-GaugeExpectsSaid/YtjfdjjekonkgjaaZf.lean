import Derived.Test.YtjfdjjekonkgjaaZe
import Derived.Laws.AppendOwnNone
import Derived.Test.YtjfdjjekonkgjaaOpen
set_option linter.unusedSimpArgs false
set_option linter.unusedVariables false
namespace Go.Proofs
open Go.RowKit

def smallB (s n : Nat) (bung : Int) : Bool := decide (s ≤ 20) && (decide (n ≤ 4) || (decide (12 < n) && decide (n ≤ 14))) && (decide (bung ≤ 60) || decide (800 < bung))
set_option maxRecDepth 100000 in
theorem small_any (s : ByteArray) (bung : Int) (A : Option Addr) (n c : Nat) (w : World) :
    Calls Try.prog 20 #[.agg #[.string s, .int .i64 bung, .slice A n c]] w fun e w' => e = .returned (.bool (smallB s.size n bung)) ∧ Below w.heap.size w w' := by
  unfold smallB
  by_cases h1 : s.size ≤ 20
  · have i1 : (s.size : Int) ≤ 20 := by omega
    by_cases h2 : n ≤ 4
    · have i2 : (n : Int) ≤ 4 := by omega
      by_cases h3 : bung ≤ 60
      · go_enter Try.func20, Try.ntmps20
        go_wp2
        go_ret
        exact ⟨by simp [h1, h2, h3], new_below _ _⟩
      · by_cases h4 : 800 < bung
        all_goals
          go_enter Try.func20, Try.ntmps20
          go_wp2
          go_ret
          exact ⟨by simp [h1, h2, h3, h4], new_below _ _⟩
    · have i2 : ¬ (n : Int) ≤ 4 := by omega
      by_cases h5 : 12 < n
      · have i5 : 12 < (n : Int) := by omega
        by_cases h6 : n ≤ 14
        · have i6 : (n : Int) ≤ 14 := by omega
          by_cases h3 : bung ≤ 60
          · go_enter Try.func20, Try.ntmps20
            go_wp2
            go_ret
            exact ⟨by simp [h1, h2, h3, h5, h6], new_below _ _⟩
          · by_cases h4 : 800 < bung
            all_goals
              go_enter Try.func20, Try.ntmps20
              go_wp2
              go_ret
              exact ⟨by simp [h1, h2, h3, h4, h5, h6], new_below _ _⟩
        · have i6 : ¬ (n : Int) ≤ 14 := by omega
          go_enter Try.func20, Try.ntmps20
          go_wp2
          go_ret
          exact ⟨by simp [h1, h2, h5, h6], new_below _ _⟩
      · have i5 : ¬ 12 < (n : Int) := by omega
        go_enter Try.func20, Try.ntmps20
        go_wp2
        go_ret
        exact ⟨by simp [h1, h2, h5], new_below _ _⟩
  · have i1 : ¬ (s.size : Int) ≤ 20 := by omega
    go_enter Try.func20, Try.ntmps20
    go_wp2
    go_ret
    exact ⟨by simp [h1], new_below _ _⟩

theorem refFloor_any (n b : Int) (w : World) (h1 : -1000000000000000000 ≤ n) (h2 : n ≤ 1000000000000000000) (hb : 0 < b) :
    Calls Try.prog 75 #[.int .i64 n, .int .i64 b] w fun e w' => e = .returned (.int .i64 (n / b)) ∧ w = w' := by
  have hd := ediv_bd n b _ hb h1 h2 (by omega)
  go_enter Try.func75, Try.ntmps75
  go_wp2
  all_goals
    go_ret
    refine ⟨ret_int ?_, rfl⟩
  · rw [floor_neg n b hb (by assumption)]; simp only [wrap64]; omega
  · exact floor_pos n b hb (by assumption)
theorem refCeil_any (n b : Int) (w : World) (h1 : -1000000000000000000 ≤ n) (h2 : n ≤ 1000000000000000000) (hb : 0 < b) :
    Calls Try.prog 76 #[.int .i64 n, .int .i64 b] w fun e w' => e = .returned (.int .i64 (-(-n / b))) ∧ w = w' := by
  have hd := ediv_bd (-n) b _ hb (by omega) (by omega) (by omega : (0:Int) ≤ 1000000000000000000)
  go_enter Try.func76, Try.ntmps76
  go_wp2_with (go_at_call 75; refine (refFloor_any _ _ _ (by omega) (by omega) (by omega)).mono ?_; rintro e w' ⟨rfl, rfl⟩)
  go_ret
  exact ⟨rfl, rfl⟩
theorem refDipErr_any (s : ByteArray) (bung d : Int) (A : Option Addr) (n c : Nat) (w : World) (h1 : -1000000 ≤ bung) (h2 : bung ≤ 1000000) :
    Calls Try.prog 24 #[.agg #[.string s, .int .i64 bung, .slice A n c], .int .i64 d] w fun e w' => e = .returned (.int .i64 (unl (within d 0 (2 * bung)) 2)) ∧ Below w.heap.size w w' := by
  cases h : within d 0 (2 * bung)
  all_goals
    have hW := Lib.hid fun W => refWithin_any d 0 (2 * bung) W
    rw [h] at hW
    go_enter Try.func24, Try.ntmps24
    go_wp2_with (go_at_call 19; refine (hW.out _).mono ?_; rintro e w1 ⟨rfl, rfl⟩)
    go_ret
    exact ⟨rfl, new_below _ _⟩
theorem areaOf_clip (c lv : Int) (hc : 0 ≤ c) : areaOf c (max (-c) (min c lv)) = areaOf c lv := by
  unfold areaOf
  congr 2
  omega
set_option maxRecDepth 100000 in
theorem refArea74_any (c lv : Int) (w : World) (hc0 : 0 ≤ c) (hc1 : c ≤ 800) (hl0 : -1000000 ≤ lv) (hl1 : lv ≤ 1000000) :
    Calls Try.prog 74 #[.int .i64 c, .int .i64 lv] w fun e w' => e = .returned (.agg #[.int .i64 (areaOf c lv).1, .int .i64 (areaOf c lv).2]) ∧ Below w.heap.size w w' := by
  obtain ⟨M1, hM1⟩ : ∃ m, (if lv < c then lv else c) = m := ⟨_, rfl⟩
  obtain ⟨M2, hM2⟩ : ∃ m, (if -c < M1 then M1 else -c) = m := ⟨_, rfl⟩
  have e1 : min c lv = M1 := by rw [← hM1]; split <;> omega
  have e2 : max (-c) M1 = M2 := by rw [← hM2]; split <;> omega
  have hA := Lib.hid fun W => refArea_any c M2 W hc0 hc1 (by omega) (by omega)
  have e3 := areaOf_clip c lv hc0
  rw [e1, e2] at e3
  rw [e3] at hA
  clear e1 e2 e3
  generalize areaOf c lv = V at *
  obtain ⟨V1, V2⟩ := V
  dsimp only at *
  go_enter Try.func74, Try.ntmps74
  go_wp2_with (go_at_call 18; refine (hA.out _).mono ?_; rintro e w1 ⟨rfl, hb⟩; have hcc := gcell hb; have hff := gfrozen hb; have hbw := via (by go_grown : Below w.heap.size w _) hb; have hz : w.heap.size < w1.heap.size := (by have := hb.size; simp at this; omega))
  refine bodyPost_ret (v := .agg #[.int .i64 V1, .int .i64 V2]) ?_ rfl ⟨rfl, ?_⟩
  · simp [results, Try.results74, go_sem, hcc, hff, hz]
  · go_grown

theorem flat_inv {α β : Type} (cs : α → List β) (sz : Nat) (hsz : ∀ x, (cs x).length = sz) : ∀ (l : List α) (j : Nat) (v : β), (l.flatMap cs)[j]? = some v → ∃ k r x, l[k]? = some x ∧ (cs x)[r]? = some v ∧ j = k * sz + r
  | [], j, v, h => by simp at h
  | a :: l, j, v, h => by
    rw [List.flatMap_cons] at h
    by_cases hj : j < sz
    · rw [List.getElem?_append_left (by rw [hsz]; exact hj)] at h
      exact ⟨0, j, a, rfl, h, by omega⟩
    · rw [List.getElem?_append_right (by rw [hsz]; omega), hsz] at h
      obtain ⟨k, r, x, h1, h2, h3⟩ := flat_inv cs sz hsz l _ v h
      exact ⟨k + 1, r, x, h1, h2, by rw [Nat.add_mul]; omega⟩
theorem flat_len {α β : Type} (cs : α → List β) (sz : Nat) (hsz : ∀ x, (cs x).length = sz) : ∀ (l : List α), (l.flatMap cs).length = l.length * sz
  | [] => by simp
  | a :: l => by rw [List.flatMap_cons, List.length_append, hsz, flat_len cs sz hsz l, List.length_cons, Nat.add_mul]; omega
/-- What lies at a slice, cell by cell. -/
theorem at_news {α : Type} {sz : Nat} {cs : α → List Value} {w : World} {a : Addr} {l : List α} (hsz : ∀ x, (cs x).length = sz) (h : At sz cs w (some a) l) :
    ∀ j u, (l.flatMap cs)[j]? = some u → w.cell? (a.add j) = some u := by
  intro j u hu
  obtain ⟨k, r, x, h1, h2, rfl⟩ := flat_inv cs sz hsz l j u hu
  obtain ⟨b, o, hA, -, hc⟩ := h k x h1
  simp only [Option.some.injEq] at hA
  subst hA
  rw [addr_add rfl]
  have := hc r u h2
  rw [Nat.add_assoc] at this
  exact this
theorem At.setCell {α : Type} {sz : Nat} {cs : α → List Value} {w : World} {A : Option Addr} {l : List α} (h : At sz cs w A l) {p : Addr} (u : Value) (hp : ∀ x, A = some x → p.block ≠ x.block) : At sz cs (w.setCell p u) A l := by
  intro k x hx
  obtain ⟨b, o, hA, hb, hc⟩ := h k x hx
  refine ⟨b, o, hA, by simpa using hb, fun j v hv => ?_⟩
  have hne := hp _ hA
  rw [World.cell?_of_block (w := w) (a := ⟨b, o + k * sz + j, none⟩) (Below.heap_setCell w p u b (fun e => hne e.symm))]
  exact hc j v hv
theorem heap_new (W : World) (o : Obj) (n : Nat) (h : n = W.heap.size) : (W.alloc o).heap[n]? = some o := by
  subst h
  show (W.heap.push o)[W.heap.size]? = _
  simp
theorem info44 : (Try.prog.info? 44).map (fun i => (i.zero, i.size, i.bytes)) = some (some (.agg #[.int .i64 0, .int .i64 0, .int .i64 0]), 3, 24) := by kernel_rfl
set_option maxRecDepth 100000 in
theorem copyCask_any (s : ByteArray) (bung : Int) (A : Option Addr) (ss : List St) (c : Nat) (w : World) (hn : ss.length ≤ 1000) (hA : A = none → c = 0) (hat : At 3 St.cs w A ss) :
    Calls Try.prog 22 #[.agg #[.string s, .int .i64 bung, .slice A ss.length c]] w fun e w' =>
      (∃ A' c', e = .returned (.agg #[.string s, .int .i64 bung, .slice A' ss.length c']) ∧ At 3 St.cs w' A' ss ∧ ss.length ≤ c') ∧ Below w.heap.size w w' := by
  cases A with
  | none =>
    have h0 : ss = [] := by
      cases ss with
      | nil => rfl
      | cons x l => obtain ⟨b, o, h, -⟩ := hat 0 x rfl; cases h
    subst h0
    obtain rfl := hA rfl
    clear hat hA
    rw [List.length_nil]
    go_enter Try.func22, Try.ntmps22
    go_wp2
    refine bodyPost_ret (v := .agg #[.string s, .int .i64 bung, .slice (some ⟨w.heap.size + 1 + 1, 0, none⟩) 0 0]) ?_ rfl ⟨⟨_, _, rfl, fun k x hx => by simp at hx, Nat.le_refl _⟩, by go_grown⟩
    simp [results, Try.results22, go_sem]
  | some a =>
    have hnews := fun (W : World) (hb : Below w.heap.size w W) => at_news (sz := 3) (cs := St.cs) (w := W) (a := a) (l := ss) (fun _ => rfl) (At.below hat hb)
    have hlen := flat_len St.cs 3 (fun _ => rfl) ss
    have hone : ∀ u ∈ ss.flatMap St.cs, u.oneCell' = true := by
      intro u hu
      obtain ⟨x, _, hx⟩ := List.mem_flatMap.1 hu
      unfold St.cs at hx
      simp at hx
      rcases hx with rfl | rfl | rfl <;> rfl
    obtain ⟨i0, hi, hz0, hz1, hz2⟩ : ∃ i0, Try.prog.info? 44 = some i0 ∧ i0.zero = some (.agg #[.int .i64 0, .int .i64 0, .int .i64 0]) ∧ i0.size = 3 ∧ i0.bytes = 24 := by
      have h := info44
      cases hh : Try.prog.info? 44 with
      | none => rw [hh] at h; cases h
      | some i => rw [hh] at h; simp only [Option.map_some, Option.some.injEq, Prod.mk.injEq] at h; exact ⟨i, rfl, h.1, h.2.1, h.2.2⟩
    have hN := Lib.hid hnews
    have hO := Lib.hid hone
    have hi' := Lib.hid hi
    clear hnews hone hat hA hi
    go_enter Try.func22, Try.ntmps22
    obtain ⟨w0, hw0⟩ : ∃ w0, ((w.alloc (.cells #[.string s, .int .i64 bung, .slice (some a) ss.length c] 34)).alloc (.cells #[.string { data := #[] }, .int .i64 0, .slice none 0 0] 34)).alloc (.cells #[] 44) = w0 := ⟨_, rfl⟩
    have hown0 : w0.ownsRow (w.heap.size + 1 + 1) 44 3 (.slice (some ⟨w.heap.size + 1 + 1, 0, none⟩) 0 0) 0 [] := by
      rw [← hw0]
      refine ⟨rfl, .inr ⟨w.heap.size + 1 + 1, 0, #[], rfl, Nat.le_refl _, ?_, Nat.le_refl _, Nat.zero_le _, rfl, rfl⟩⟩
      exact heap_new _ _ _ (by simp)
    have hb0 : Below w.heap.size w w0 := by rw [← hw0]; go_grown
    have hs0 : w0.heap.size = w.heap.size + 1 + 1 + 1 := by rw [← hw0]; simp
    rw [← hw0] at hown0 hb0 hs0
    clear hw0
    have hown := Lib.hid hown0
    have hbb := Lib.hid hb0
    have hss := Lib.hid hs0
    clear hown0 hb0 hs0
    go_wp2_with (at_builtin; refine wpList_append_own _ rfl _ _ 32 rfl (w.heap.size + 1 + 1) 44 i0 (.agg #[.int .i64 0, .int .i64 0, .int .i64 0]) 3 24 Try.underlying32 hi'.out hz0 hz1 hz2 rfl (by decide) _ _ _ rfl hown.out a ss.length c (ss.flatMap St.cs) rfl hlen (hN.out _ hbb.out) hO.out ?c1 ?c2 ?c3 ?_)
    case c1 => unfold maxLen; omega
    case c2 => omega
    case c3 => simp
    intro v' w3 hown3 hg3 hne
    obtain ⟨A', c', rfl, hat3, hcap, hbase⟩ : ∃ A' c', v' = .slice A' ss.length c' ∧ At 3 St.cs w3 A' ss ∧ ss.length ≤ c' ∧ ∀ x, A' = some x → w.heap.size + 1 + 1 ≤ x.block := by
      obtain ⟨A', c', e, h⟩ := at_of_owns (cs := St.cs) (sz := 3) (fun _ => rfl) hown3
      rcases hown3.2 with ⟨e2, h0⟩ | ⟨g, cap, cur, e2, h1, h2, h3, -⟩
      · exact (hne e2).elim
      · rw [e] at e2
        simp only [Value.slice.injEq] at e2
        obtain ⟨r1, -, r3⟩ := e2
        refine ⟨A', c', e, h, by omega, fun x hx => ?_⟩
        rw [r1] at hx
        simp only [Option.some.injEq] at hx
        subst hx
        exact h1
    have hrow : ∀ r, (Value.slice (some ⟨w.heap.size + 1 + 1, 0, none⟩) 0 0).ownBlock = some r → w.heap.size + 1 < r := fun r e => by cases e; simp
    have f0 : w3.cell? ⟨w.heap.size, 0, none⟩ = some (.string s) := cell_grown hg3 (fun r e => by have := hrow r e; omega) (by simp [go_sem])
    have f1 : w3.cell? ⟨w.heap.size, 1, none⟩ = some (.int .i64 bung) := cell_grown hg3 (fun r e => by have := hrow r e; omega) (by simp [go_sem])
    have f2 : w3.cell? ⟨w.heap.size, 2, none⟩ = some (.slice (some a) ss.length c) := cell_grown hg3 (fun r e => by have := hrow r e; omega) (by simp [go_sem])
    have z2 : w3.frozen? ⟨w.heap.size, 2, none⟩ = false := frozen_grown hg3 (fun r e => by have := hrow r e; omega) (v := .slice (some a) ss.length c) (by simp [go_sem]) (by simp [go_sem])
    have g0 : w3.cell? ⟨w.heap.size + 1, 0, none⟩ = some (.string { data := #[] }) := cell_grown hg3 hrow (by simp [go_sem])
    have g1 : w3.cell? ⟨w.heap.size + 1, 1, none⟩ = some (.int .i64 0) := cell_grown hg3 hrow (by simp [go_sem])
    have g2 : w3.cell? ⟨w.heap.size + 1, 2, none⟩ = some (.slice none 0 0) := cell_grown hg3 hrow (by simp [go_sem])
    have y0 : w3.frozen? ⟨w.heap.size + 1, 0, none⟩ = false := frozen_grown hg3 hrow (v := .string { data := #[] }) (by simp [go_sem]) (by simp [go_sem])
    have y1 : w3.frozen? ⟨w.heap.size + 1, 1, none⟩ = false := frozen_grown hg3 hrow (v := .int .i64 0) (by simp [go_sem]) (by simp [go_sem])
    have y2 : w3.frozen? ⟨w.heap.size + 1, 2, none⟩ = false := frozen_grown hg3 hrow (v := .slice none 0 0) (by simp [go_sem]) (by simp [go_sem])
    have hb3 := below_grown hbb.out hg3 (fun r e => by have := hrow r e; omega)
    have hs3 := hg3.size
    have hs4 : w.heap.size + 1 < w3.heap.size := by have := hss.out; omega
    have hs5 : w.heap.size < w3.heap.size := by omega
    have hat4 := Lib.hid hat3
    have hbase' := Lib.hid hbase
    clear hrow hg3 hown3 hne hN hO hi' hat3 hbase hown hbb hss hs3
    go_wp2
    refine bodyPost_ret (v := .agg #[.string s, .int .i64 bung, .slice A' ss.length c']) ?_ rfl ⟨⟨A', c', rfl, ?_, hcap⟩, by go_grown⟩
    · simp [results, Try.results22, go_sem, g0, g1, g2, y0, y1, y2]
    · repeat' refine At.setCell ?_ _ (fun x hx => by have := hbase'.out x hx; dsimp only; omega)
      exact hat4.out
end Go.Proofs
