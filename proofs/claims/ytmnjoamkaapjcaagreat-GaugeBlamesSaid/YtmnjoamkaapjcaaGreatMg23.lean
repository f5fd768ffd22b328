import Derived.Test.YtmnjoamkaapjcaaGreatMg12
import Derived.Test.YtmnjoamkaapjcaaGreatMg10
import Derived.Test.YtmnjoamkaapjcaaGreatMg19
import Derived.Test.YtmnjoamkaapjcaaGreatMg4
import Derived.Test.YtmnjoamkaapjcaaGreatMg11
import Derived.Test.YtmnjoamkaapjcaaGreatMg20
import Derived.Test.YtmnjoamkaapjcaaGreatMg7
import Derived.Test.YtmnjoamkaapjcaaGreatMg21
import Derived.Test.YtmnjoamkaapjcaaGreatMg22
import Derived.Test.YtmnjoamkaapjcaaGreatMg9
set_option linter.unusedSimpArgs false
set_option linter.unusedVariables false
namespace Go.Proofs
open Go.RowKit

set_option maxRecDepth 100000 in
set_option maxHeartbeats 1000000 in
theorem refBookErr_any (l0 l1 : Int) (A A2 : Option Addr) (rs : List Rd) (ms : List Mv) (c c2 : Nat) (w : World)
    (hs : ∀ x ∈ rs, x.c.size ≤ 9223372036854775807) (hat : At 4 Rd.cs w A rs)
    (hs2 : ∀ x ∈ ms, x.f.size ≤ 9223372036854775807 ∧ x.t.size ≤ 9223372036854775807) (hat2 : At 4 Mv.cs w A2 ms) :
    Calls Tryz.prog 11 #[.agg #[.int .i64 l0, .int .i64 l1, .slice A rs.length c, .slice A2 ms.length c2]] w fun e w' =>
      e = .returned (.int .i64 (checkB l0 l1 rs ms).2) ∧ Below w.heap.size w w' := by
  have hO := Lib.hid fun W hb => refCheckBook_any l0 l1 A A2 rs ms c c2 W hs (At.below hat hb) hs2 (At.below hat2 hb)
  obtain ⟨V, hV⟩ : ∃ V, checkB l0 l1 rs ms = V := ⟨_, rfl⟩
  rw [hV] at hO ⊢
  clear hV hs hat hs2 hat2
  obtain ⟨⟨V1, V2⟩, V3⟩ := V
  unfold bval at hO
  dsimp only at hO ⊢
  go_enter Tryz.func11, Tryz.ntmps11
  go_wp2_with (first | (go_at_call 37; refine (hO.out _ ?_).mono ?_; (· go_grown); rintro e w1 ⟨rfl, hb⟩; have hbw := via (by go_grown : Below w.heap.size w _) hb))
  have hsz := hbw.size
  go_ret
  exact ⟨rfl, by go_grown⟩

end Go.Proofs

namespace Go.Proofs
open Go.RowKit

theorem take_snoc_all {α} {P : α → Prop} {l : List α} {k : Nat} {x : α} (hx : l[k]? = some x) (h : ∀ y ∈ l.take k, P y) (hp : P x) : ∀ y ∈ l.take (k + 1), P y := by
  intro y hy
  rw [List.take_add_one, hx] at hy
  rcases List.mem_append.1 hy with h1 | h1
  · exact h y h1
  · simp at h1; subst h1; exact hp
def Fewish (rs : List Rd) (ms : List Mv) : Prop :=
  rs.length ≤ 42 ∧ ms.length ≤ 62 ∧ (∀ x ∈ rs, x.c.size ≤ 20) ∧ ∀ x ∈ ms, x.f.size ≤ 20 ∧ x.t.size ≤ 20
def FewSaid (rs : List Rd) (ms : List Mv) (e : Ending) : Prop := ∃ r, e = .returned (.bool r) ∧ (r = true → Fewish rs ms)

set_option maxRecDepth 100000 in
set_option maxHeartbeats 2000000 in
theorem few_any (l0 l1 : Int) (A A2 : Option Addr) (rs : List Rd) (ms : List Mv) (c c2 : Nat) (w : World)
    (hs : ∀ x ∈ rs, x.c.size ≤ 9223372036854775807) (hat : At 4 Rd.cs w A rs)
    (hs2 : ∀ x ∈ ms, x.f.size ≤ 9223372036854775807 ∧ x.t.size ≤ 9223372036854775807) (hat2 : At 4 Mv.cs w A2 ms) :
    Calls Tryz.prog 5 #[.agg #[.int .i64 l0, .int .i64 l1, .slice A rs.length c, .slice A2 ms.length c2]] w fun e w' =>
      FewSaid rs ms e ∧ Below w.heap.size w w' := by
  obtain ⟨n, hn⟩ : ∃ n, rs.length = n := ⟨_, rfl⟩
  obtain ⟨m, hm⟩ : ∃ n, ms.length = n := ⟨_, rfl⟩
  have hn' := Lib.hid hn
  have hm' := Lib.hid hm
  have hat' := Lib.hid hat
  have hat2' := Lib.hid hat2
  have hs' := Lib.hid hs
  have hs2' := Lib.hid hs2
  rw [hn, hm]
  clear hn hm hat hat2 hs hs2
  by_cases hcn : n ≤ 42 ∧ (n ≤ 8 ∨ 40 < n)
  case neg =>
    by_cases n8 : 8 < (n : Int)
    all_goals by_cases n40 : (n : Int) ≤ 40
    all_goals by_cases n42 : 42 < (n : Int)
    all_goals try (exfalso; omega)
    all_goals clear hcn
    all_goals go_enter Tryz.func5, Tryz.ntmps5
    all_goals go_wp2
    all_goals
      refine bodyPost_ret (v := .bool false) ?_ rfl ⟨⟨false, rfl, fun h => nomatch h⟩, ?_⟩
      · simp [results, Tryz.results5, go_sem]
      · go_grown
  by_cases hcm : m ≤ 62 ∧ (m ≤ 8 ∨ 60 < m)
  case neg =>
    by_cases n8 : 8 < (n : Int)
    all_goals by_cases n40 : (n : Int) ≤ 40
    all_goals by_cases n42 : 42 < (n : Int)
    all_goals try (exfalso; omega)
    all_goals by_cases m8 : 8 < (m : Int)
    all_goals by_cases m60 : (m : Int) ≤ 60
    all_goals by_cases m62 : 62 < (m : Int)
    all_goals try (exfalso; omega)
    all_goals clear hcn hcm
    all_goals go_enter Tryz.func5, Tryz.ntmps5
    all_goals go_wp2
    all_goals
      refine bodyPost_ret (v := .bool false) ?_ rfl ⟨⟨false, rfl, fun h => nomatch h⟩, ?_⟩
      · simp [results, Tryz.results5, go_sem]
      · go_grown
  by_cases n8 : 8 < (n : Int)
  all_goals by_cases n40 : (n : Int) ≤ 40
  all_goals by_cases n42 : 42 < (n : Int)
  all_goals try (exfalso; omega)
  all_goals by_cases m8 : 8 < (m : Int)
  all_goals by_cases m60 : (m : Int) ≤ 60
  all_goals by_cases m62 : 62 < (m : Int)
  all_goals try (exfalso; omega)
  all_goals
    obtain ⟨hcn, -⟩ := hcn
    obtain ⟨hcm, -⟩ := hcm
    go_enter Tryz.func5, Tryz.ntmps5
    go_wp2
    clear n8 n40 n42 m8 m60 m62
    go_loopw [3] (fun i wr => ∃ k : Nat, k ≤ n ∧ i = .int .i64 k ∧ Hid (∀ x ∈ rs.take k, x.c.size ≤ 20) ∧ Below w.heap.size w wr ∧ wr.heap[w.heap.size]? = some (.cells #[.int .i64 l0, .int .i64 l1, .slice A n c, .slice A2 m c2] 27 (0, 0))) (fun i _ => n - (intOf i).toNat)
    case atStart => exact ⟨0, Nat.zero_le _, rfl, by simp [Hid], new_below _ _, by (repeat (first | assumption | (refine bk_new _ _ ?_; (simp; done)) | refine bk_drew ?_ | refine bk_alloc ?_ _ | refine bk_set ?_ (by simp <;> omega) _))⟩
    case round =>
      obtain ⟨k, hk, rfl, hall, hbw, B0⟩ := hrel
      have C0 := bk4 B0
      by_cases hlt : k < n
      · obtain ⟨x, hx⟩ : ∃ x, rs[k]? = some x := ⟨_, List.getElem?_eq_getElem (by rw [hn'.out]; exact hlt)⟩
        obtain ⟨b, o, rfl, hbl, hc⟩ := (hat'.out.below hbw) k x hx
        have hx' := Lib.hid hx
        have hsx := hs'.out x (List.mem_of_getElem? hx)
        obtain ⟨xc, xd, xl, xh⟩ := x
        have c0 := hc 0 _ rfl
        dsimp only at c0 hsx
        simp only [Nat.add_zero] at c0
        clear hx hc
        by_cases g1 : 20 < (xc.size : Int)
        · go_wp2
          refine bodyPost_ret (v := .bool false) ?_ rfl ⟨⟨false, rfl, fun h => nomatch h⟩, ?_⟩
          · simp [results, Tryz.results5, go_sem]
          · go_grown
        · have hgo := Lib.hid (take_snoc_all (P := fun x : Rd => x.c.size ≤ 20) hx'.out hall.out (by dsimp only; omega))
          go_wp2
          go_roundw
          case rel => exact ⟨k + 1, by omega, by go_num, hgo.out, hbw, B0⟩
          case measure => simp [intOf]; omega
      · have hkn : k = n := by omega
        have hall2 : Hid (∀ x ∈ rs, x.c.size ≤ 20) := Lib.hid (by have := hall.out; rwa [List.take_of_length_le (by rw [hn'.out]; omega)] at this)
        clear hall
        go_wp2
        go_loopw [4] (fun i wr => ∃ k : Nat, k ≤ m ∧ i = .int .i64 k ∧ Hid (∀ x ∈ ms.take k, x.f.size ≤ 20 ∧ x.t.size ≤ 20) ∧ Below w.heap.size w wr ∧ wr.heap[w.heap.size]? = some (.cells #[.int .i64 l0, .int .i64 l1, .slice A n c, .slice A2 m c2] 27 (0, 0))) (fun i _ => m - (intOf i).toNat)
        case atStart => exact ⟨0, Nat.zero_le _, rfl, by simp [Hid], hbw, B0⟩
        case round =>
          obtain ⟨k2, hk2, rfl, hall, hbw, B0⟩ := hrel
          have C0 := bk4 B0
          by_cases hlt2 : k2 < m
          · obtain ⟨x, hx⟩ : ∃ x, ms[k2]? = some x := ⟨_, List.getElem?_eq_getElem (by rw [hm'.out]; exact hlt2)⟩
            obtain ⟨b, o, rfl, hbl, hc⟩ := (hat2'.out.below hbw) k2 x hx
            have hx' := Lib.hid hx
            have hsx := hs2'.out x (List.mem_of_getElem? hx)
            obtain ⟨xd, xf, xt, xv⟩ := x
            have c1 := hc 1 _ rfl
            have c2 := hc 2 _ rfl
            dsimp only at c1 c2 hsx
            obtain ⟨hsx1, hsx2⟩ := hsx
            clear hx hc
            by_cases g1 : 20 < (xf.size : Int)
            · go_wp2
              refine bodyPost_ret (v := .bool false) ?_ rfl ⟨⟨false, rfl, fun h => nomatch h⟩, ?_⟩
              · simp [results, Tryz.results5, go_sem]
              · go_grown
            · by_cases g2 : 20 < (xt.size : Int)
              · go_wp2
                refine bodyPost_ret (v := .bool false) ?_ rfl ⟨⟨false, rfl, fun h => nomatch h⟩, ?_⟩
                · simp [results, Tryz.results5, go_sem]
                · go_grown
              · have hgo := Lib.hid (take_snoc_all (P := fun x : Mv => x.f.size ≤ 20 ∧ x.t.size ≤ 20) hx'.out hall.out ⟨by dsimp only; omega, by dsimp only; omega⟩)
                go_wp2
                go_roundw
                case rel => exact ⟨k2 + 1, by omega, by go_num, hgo.out, hbw, B0⟩
                case measure => simp [intOf]; omega
          · have hkm : k2 = m := by omega
            go_wp2
            refine bodyPost_ret (v := .bool true) ?_ rfl ⟨⟨true, rfl, fun _ => ⟨by rw [hn'.out]; exact hcn, by rw [hm'.out]; exact hcm, hall2.out, ?_⟩⟩, ?_⟩
            · simp [results, Tryz.results5, go_sem]
            · have := hall.out
              rwa [List.take_of_length_le (by rw [hm'.out]; omega)] at this
            · go_grown
end Go.Proofs

namespace Go.Proofs
open Go.RowKit

theorem flatB_inv {α β : Type} (cs : α → List β) (sz : Nat) (hsz : ∀ x, (cs x).length = sz) : ∀ (l : List α) (j : Nat) (v : β), (l.flatMap cs)[j]? = some v → ∃ k r x, l[k]? = some x ∧ (cs x)[r]? = some v ∧ j = k * sz + r
  | [], j, v, h => by simp at h
  | a :: l, j, v, h => by
    rw [List.flatMap_cons] at h
    by_cases hj : j < sz
    · rw [List.getElem?_append_left (by rw [hsz]; exact hj)] at h
      exact ⟨0, j, a, rfl, h, by omega⟩
    · rw [List.getElem?_append_right (by rw [hsz]; omega), hsz] at h
      obtain ⟨k, r, x, h1, h2, h3⟩ := flatB_inv cs sz hsz l _ v h
      exact ⟨k + 1, r, x, h1, h2, by rw [Nat.add_mul]; omega⟩
theorem flatB_len {α β : Type} (cs : α → List β) (sz : Nat) (hsz : ∀ x, (cs x).length = sz) : ∀ (l : List α), (l.flatMap cs).length = l.length * sz
  | [] => by simp
  | a :: l => by rw [List.flatMap_cons, List.length_append, hsz, flatB_len cs sz hsz l, List.length_cons, Nat.add_mul]; omega
/-- What lies at a slice, cell by cell. -/
theorem atB_news {α : Type} {sz : Nat} {cs : α → List Value} {w : World} {a : Addr} {l : List α} (hsz : ∀ x, (cs x).length = sz) (h : At sz cs w (some a) l) :
    ∀ j u, (l.flatMap cs)[j]? = some u → w.cell? (a.add j) = some u := by
  intro j u hu
  obtain ⟨k, r, x, h1, h2, rfl⟩ := flatB_inv cs sz hsz l j u hu
  obtain ⟨b, o, hA, -, hc⟩ := h k x h1
  simp only [Option.some.injEq] at hA
  subst hA
  rw [addr_add rfl]
  have := hc r u h2
  rw [Nat.add_assoc] at this
  exact this
theorem At.setB {α : Type} {sz : Nat} {cs : α → List Value} {w : World} {A : Option Addr} {l : List α} (h : At sz cs w A l) {p : Addr} (u : Value) (hp : ∀ x, A = some x → p.block ≠ x.block) : At sz cs (w.setCell p u) A l := by
  intro k x hx
  obtain ⟨b, o, hA, hb, hc⟩ := h k x hx
  refine ⟨b, o, hA, by simpa using hb, fun j v hv => ?_⟩
  have hne := hp _ hA
  rw [World.cell?_of_block (w := w) (a := ⟨b, o + k * sz + j, none⟩) (Below.heap_setCell w p u b (fun e => hne e.symm))]
  exact hc j v hv
/-- 'append([]T{}, xs...)': the slice that it is appended to has no room: nothing is asked of its block. -/
theorem append_copy {P : Program} {α : Type} {sz : Nat} {cs : α → List Value} (hsz : ∀ y, (cs y).length = sz) (hp : 0 < sz) {x : World} {t ty e : TypeId} {i : TypeInfo} {z : Value} {bytes : Nat}
    (ht : P.underlying t = some (.slice e)) (hi : P.info? e = some i) (hz : i.zero = some z) (hs : i.size = sz) (hzs : z.cells.size = sz) (hby : i.bytes = bytes) (hbb : bytes ≤ 1000)
    (b : Nat) (N : Nat → Prop) (hb : ¬ N b) (hB : ∀ n, N n → n < x.heap.size) {l : List α} {A : Option Addr} (c : Nat) (hat : At sz cs x A l) (hl : l.length ≤ 1000) :
    ∃ v' x', (Builtin.append_ #[t, t] ty #[.slice (some ⟨b, 0, none⟩) 0 0, .slice A l.length c]).run P x = .ok v' x' ∧ Below x.heap.size x x' ∧
      ∃ A' c', v' = .slice A' l.length c' ∧ At sz cs x' A' l ∧ ∀ p, A' = some p → ¬ N p.block := by
  cases l with
  | nil =>
    refine ⟨.slice (some ⟨b, 0, none⟩) 0 0, x, ?_, Below.refl _ _, _, _, rfl, (fun k y hy => by simp at hy), (fun p hp' => by cases hp'; exact hb)⟩
    cases A with
    | none => simp [Builtin.append_, run_underlying ht, sizeOf, typeInfo, hi, Builtin.lenOf, Builtin.firstCells, loadCells, loadCellsFrom, storeCells]
    | some a => simp [Builtin.append_, run_underlying ht, sizeOf, typeInfo, hi, Builtin.lenOf, Builtin.firstCells, loadCells, loadCellsFrom, storeCells]
  | cons y l' =>
    obtain ⟨l, hl'⟩ : ∃ l, y :: l' = l := ⟨_, rfl⟩
    have hne : 0 < l.length := by rw [← hl']; simp
    rw [hl'] at hat hl ⊢
    obtain ⟨a, rfl⟩ : ∃ a, A = some a := by
      obtain ⟨b', o', h, -⟩ := hat 0 y (by rw [← hl']; rfl)
      exact ⟨_, h⟩
    have hfl := flatB_len cs sz hsz l
    have hnews := atB_news hsz hat
    have hbt : l.length * bytes ≤ 1000 * 1000 := Nat.mul_le_mul hl hbb
    subst hs
    subst hby
    have hr := run_append_grow (P := P) (w := x) t ty e i z ht hi hz ⟨b, 0, none⟩ 0 0 [] (by simp) (by simp) a l.length c (l.flatMap cs) hfl hnews (by omega) (by omega) (growslice_fits (by omega) (by rw [Nat.zero_add]; omega))
    simp only [Nat.zero_add] at hr
    have hge := grownCap_ge x l.length 0 e
    have hcm : grownCap x l.length 0 e ≤ maxLen := grownCap_le_maxLen x l.length 0 e (by unfold maxLen; omega)
    have hb' : Below x.heap.size x (x.drew.alloc (.cells (([] : List Value).toArray ++ (l.flatMap cs).toArray ++ Builtin.zeroCells z.cells (grownCap x l.length 0 e - l.length)) e)) := ((Below.refl _ x).drew).alloc (by simp) _
    have hown : (x.drew.alloc (.cells (([] : List Value).toArray ++ (l.flatMap cs).toArray ++ Builtin.zeroCells z.cells (grownCap x l.length 0 e - l.length)) e)).ownsRow x.heap.size e i.size (.slice (some ⟨x.heap.size, 0, none⟩) l.length (grownCap x l.length 0 e)) l.length (l.flatMap cs) := by
      refine ⟨hfl, .inr ⟨x.heap.size, _, _, rfl, Nat.le_refl _, heap_alloc_new x.drew _, hge, hcm, ?_, ?_⟩⟩
      · simp only [Array.size_append, List.size_toArray, size_zeroCells, hzs, hfl, List.length_nil, Nat.zero_add, ← Nat.add_mul]
        congr 1
        omega
      · simp only [Array.toList_append, List.nil_append]
        rw [← hfl]
        exact List.take_left
    obtain ⟨A', c', e', h⟩ := at_of_owns (cs := cs) (sz := i.size) hsz hown
    refine ⟨_, _, hr, hb', A', c', e', h, fun p hp' => ?_⟩
    subst hp'
    simp only [Value.slice.injEq, Option.some.injEq] at e'
    obtain ⟨rfl, -, -⟩ := e'
    intro hN
    have := hB _ hN
    dsimp only at this
    omega
end Go.Proofs

namespace Go.Proofs
open Go.RowKit

/-- A slice that reads as rows, in a block other than B. -/
def Sl {α : Type} (cs : α → List Value) (B : Nat) (l : List α) (v : Value) (x : World) : Prop := ∃ A c, v = .slice A l.length c ∧ At 4 cs x A l ∧ (0 < l.length → ∀ p, A = some p → ¬ (p.block = B ∨ p.block = B + 1))
theorem Sl.keep {α : Type} {cs : α → List Value} {B : Nat} {l : List α} {v : Value} {x x' : World} (h : Sl cs B l v x) (hs : x.heap.size ≤ x'.heap.size) (hh : ∀ k, k < x.heap.size → k ≠ B → x'.heap[k]? = x.heap[k]?) : Sl cs B l v x' := by
  obtain ⟨A, c, rfl, h1, h2⟩ := h
  refine ⟨A, c, rfl, fun k y hy => ?_, h2⟩
  obtain ⟨b, o, hA, hb, hc⟩ := h1 k y hy
  refine ⟨b, o, hA, by omega, fun j v hv => ?_⟩
  rw [← hc j v hv]
  exact World.cell?_of_block (a := ⟨b, o + k * 4 + j, none⟩) (hh b hb (fun e => h2 (by have := (List.getElem?_eq_some_iff.1 hy).1; omega) _ hA (.inl e)))
theorem Sl.at4 {α : Type} {cs : α → List Value} {B : Nat} {A : Option Addr} {l : List α} {x : World} {u0 u1 u2 u3 : Value} (h : At 4 cs x A l) (hn : 0 < l.length → ∀ p, A = some p → ¬ (p.block = B ∨ p.block = B + 1)) :
    At 4 cs ((((x.setCell ⟨B + 1, 0, none⟩ u0).setCell ⟨B + 1, 1, none⟩ u1).setCell ⟨B + 1, 2, none⟩ u2).setCell ⟨B + 1, 3, none⟩ u3) A l := by
  cases l with
  | nil => exact fun k y hy => by simp at hy
  | cons y l' =>
    have := fun p hp => hn (by simp) p hp
    repeat' refine At.setB ?_ _ (fun p hp => by have := this p hp; dsimp only; omega)
    exact h
/-- What an operation of the copy does to the world at most: it makes blocks, and writes into block B. -/
def Gr (B : Nat) (x x' : World) : Prop := x.heap.size ≤ x'.heap.size ∧ ∀ k, k < x.heap.size → k ≠ B → x'.heap[k]? = x.heap[k]?
theorem Gr.refl (B : Nat) (x : World) : Gr B x x := ⟨Nat.le_refl _, fun _ _ _ => rfl⟩
theorem Gr.of_below {B : Nat} {x x' : World} (h : Below x.heap.size x x') : Gr B x x' := ⟨h.size, fun k hk _ => h.block k hk⟩
theorem Gr.set (B o : Nat) (x : World) (v : Value) : Gr B x (x.setCell ⟨B, o, none⟩ v) := ⟨by simp, fun k _ hk => Below.heap_setCell x _ v k hk⟩
def Zb : Obj := .cells #[.int .i64 0, .int .i64 0, .slice none 0 0, .slice none 0 0] 27 (0, 0)
def CopyJ (l0 l1 : Int) (rs : List Rd) (ms : List Mv) (w x : World) : Prop :=
  Below w.heap.size w x ∧ w.heap.size + 1 < x.heap.size ∧ x.heap[w.heap.size + 1]? = some Zb ∧
  ∃ v2 v3, x.heap[w.heap.size]? = some (.cells #[.int .i64 l0, .int .i64 l1, v2, v3] 27 (0, 0)) ∧ Sl Rd.cs w.heap.size rs v2 x ∧ Sl Mv.cs w.heap.size ms v3 x
def CopyF (rs : List Rd) (ms : List Mv) (B : Nat) (s : Nat) (v : Value) (x : World) : Prop :=
  if s = 3 ∨ s = 7 then ∃ b, v = .slice (some ⟨b, 0, none⟩) 0 0 ∧ ¬ (b = B ∨ b = B + 1)
  else if s = 4 ∨ s = 11 then v = .pointer (some ⟨B, 2, none⟩)
  else if s = 8 ∨ s = 12 then v = .pointer (some ⟨B, 3, none⟩)
  else if s = 5 ∨ s = 6 then Sl Rd.cs B rs v x
  else if s = 9 ∨ s = 10 then Sl Mv.cs B ms v x
  else True
theorem CopyF.keep {rs : List Rd} {ms : List Mv} {B s : Nat} {v : Value} {x x' : World} (h : CopyF rs ms B s v x) (g : Gr B x x') : CopyF rs ms B s v x' := by
  unfold CopyF at *
  split
  · rw [if_pos (by assumption)] at h; exact h
  rw [if_neg (by assumption)] at h
  split
  · rw [if_pos (by assumption)] at h; exact h
  rw [if_neg (by assumption)] at h
  split
  · rw [if_pos (by assumption)] at h; exact h
  rw [if_neg (by assumption)] at h
  split
  · rw [if_pos (by assumption)] at h; exact h.keep g.1 g.2
  rw [if_neg (by assumption)] at h
  split
  · rw [if_pos (by assumption)] at h; exact h.keep g.1 g.2
  · trivial
theorem CopyJ.below {l0 l1 : Int} {rs : List Rd} {ms : List Mv} {w x x' : World} (h : CopyJ l0 l1 rs ms w x) (hb : Below x.heap.size x x') : CopyJ l0 l1 rs ms w x' := by
  obtain ⟨h1, h2, h3, v2, v3, h4, h5, h6⟩ := h
  have g : Gr w.heap.size x x' := .of_below hb
  exact ⟨via h1 hb, by have := hb.size; omega, bk_keep hb h3, v2, v3, bk_keep hb h4, h5.keep g.1 g.2, h6.keep g.1 g.2⟩
theorem CopyJ.set2 {l0 l1 : Int} {rs : List Rd} {ms : List Mv} {w x : World} {v : Value} (h : CopyJ l0 l1 rs ms w x) (hv : Sl Rd.cs w.heap.size rs v x) : CopyJ l0 l1 rs ms w (x.setCell ⟨w.heap.size, 2, none⟩ v) := by
  obtain ⟨h1, h2, h3, v2, v3, h4, h5, h6⟩ := h
  have g := Gr.set w.heap.size 2 x v
  exact ⟨h1.setCell (Nat.le_refl _) v, by simpa using h2, bk_set h3 (by simp) v, v, v3, bk_here h4 v rfl, hv.keep g.1 g.2, h6.keep g.1 g.2⟩
theorem CopyJ.set3 {l0 l1 : Int} {rs : List Rd} {ms : List Mv} {w x : World} {v : Value} (h : CopyJ l0 l1 rs ms w x) (hv : Sl Mv.cs w.heap.size ms v x) : CopyJ l0 l1 rs ms w (x.setCell ⟨w.heap.size, 3, none⟩ v) := by
  obtain ⟨h1, h2, h3, v2, v3, h4, h5, h6⟩ := h
  have g := Gr.set w.heap.size 3 x v
  exact ⟨h1.setCell (Nat.le_refl _) v, by simpa using h2, bk_set h3 (by simp) v, v2, v, bk_here h4 v rfl, h5.keep g.1 g.2, hv.keep g.1 g.2⟩

theorem wp_val {P : Program} {o : Oper} {a : Act} {x x' : World} {v : Value} {K : Act → World → Prop} {Q : Exit → Act → World → Prop} (hr : (execOp a.eval o).run P x = .ok (.value v) x') (h : K (a.put o.dst v) x') : o.wp P a x K Q := by
  unfold Oper.wp
  rw [hr, Oper.upon_value]
  exact h
theorem wp_skp {P : Program} {o : Oper} {a : Act} {x x' : World} {K : Act → World → Prop} {Q : Exit → Act → World → Prop} (hr : (execOp a.eval o).run P x = .ok .skip x') (h : K (a.put o.dst undef) x') : o.wp P a x K Q := by
  unfold Oper.wp
  rw [hr, Oper.upon_skip]
  exact h
theorem wp_app {P : Program} {o : Oper} {a : Act} {x x' : World} {v1 v2 v' : Value} {K : Act → World → Prop} {Q : Exit → Act → World → Prop} (s y : Operand) (t : TypeId)
    (ho : o.op = .call { callee := .builtin .append, args := #[s, y], argTypes := #[t, t] }) (hs : a.eval s = v1) (hy : a.eval y = v2)
    (hr : (Builtin.append_ #[t, t] o.type #[v1, v2]).run P x = .ok v' x') (h : K (a.put o.dst v') x') : o.wp P a x K Q := by
  unfold Oper.wp execOp
  simp only [ho, resolve, invoke, builtin, Sem.run_bind, Sem.run_pure, Result.andThen_ok, List.map_toArray, List.map_cons, List.map_nil, hs, hy, hr]
  exact h
def CopyGot (l0 l1 : Int) (rs : List Rd) (ms : List Mv) (e : Ending) (w' : World) : Prop :=
  ∃ A c A2 c2, e = .returned (.agg #[.int .i64 l0, .int .i64 l1, .slice A rs.length c, .slice A2 ms.length c2]) ∧ At 4 Rd.cs w' A rs ∧ At 4 Mv.cs w' A2 ms

theorem info73 : (Tryz.prog.info? 62).map (fun i => (i.zero.map (·.cells.size), i.size, i.bytes)) = some (some 4, 4, 40) := by kernel_rfl
theorem info122 : (Tryz.prog.info? 64).map (fun i => (i.zero.map (·.cells.size), i.size, i.bytes)) = some (some 4, 4, 48) := by kernel_rfl
theorem info_of {t n b : Nat} (h : (Tryz.prog.info? t).map (fun i => (i.zero.map (·.cells.size), i.size, i.bytes)) = some (some n, n, b)) : ∃ i z, Tryz.prog.info? t = some i ∧ i.zero = some z ∧ i.size = n ∧ z.cells.size = n ∧ i.bytes = b := by
  cases hh : Tryz.prog.info? t with
  | none => rw [hh] at h; cases h
  | some i =>
    rw [hh] at h
    simp only [Option.map_some, Option.some.injEq, Prod.mk.injEq] at h
    cases hz : i.zero with
    | none => rw [hz] at h; simp at h
    | some z =>
      rw [hz] at h
      simp at h
      exact ⟨i, z, rfl, hz, h.2.1, h.1, h.2.2⟩

set_option maxRecDepth 100000 in
set_option maxHeartbeats 2000000 in
theorem copyBook_any (l0 l1 : Int) (A A2 : Option Addr) (rs : List Rd) (ms : List Mv) (c c2 : Nat) (w : World)
    (hn : rs.length ≤ 1000) (hm : ms.length ≤ 1000) (hat : At 4 Rd.cs w A rs) (hat2 : At 4 Mv.cs w A2 ms) :
    Calls Tryz.prog 7 #[.agg #[.int .i64 l0, .int .i64 l1, .slice A rs.length c, .slice A2 ms.length c2]] w fun e w' =>
      CopyGot l0 l1 rs ms e w' ∧ Below w.heap.size w w' := by
  have hne : ∀ {α : Type} {cs : α → List Value} {A : Option Addr} {l : List α}, At 4 cs w A l → 0 < l.length → ∀ p, A = some p → ¬ (p.block = w.heap.size ∨ p.block = w.heap.size + 1) := by
    intro α cs A l h hl p hp e
    cases l with
    | nil => simp at hl
    | cons y l' =>
      obtain ⟨b, o, hA, hb, -⟩ := h 0 y rfl
      rw [hp] at hA
      simp only [Option.some.injEq] at hA
      subst hA
      dsimp only at e
      omega
  have s1 : Sl Rd.cs w.heap.size rs (.slice A rs.length c) w := ⟨A, c, rfl, hat, hne hat⟩
  have s2 : Sl Mv.cs w.heap.size ms (.slice A2 ms.length c2) w := ⟨A2, c2, rfl, hat2, hne hat2⟩
  obtain ⟨i1, z1, i11, i12, i13, i14, i15⟩ := info_of info73
  obtain ⟨i2, z2, i21, i22, i23, i24, i25⟩ := info_of info122
  have s1' := Lib.hid s1
  have s2' := Lib.hid s2
  have hI1 := Lib.hid fun x b N A c (hb : ¬ N b) (hB : ∀ n, N n → n < x.heap.size) (hat : At 4 Rd.cs x A rs) => append_copy (P := Tryz.prog) (sz := 4) (cs := Rd.cs) (x := x) (t := 24) (ty := 24) (fun _ => rfl) (by decide) Tryz.underlying24 i11 i12 i13 i14 i15 (by decide) b N hb hB c hat hn
  have hI2 := Lib.hid fun x b N A c (hb : ¬ N b) (hB : ∀ n, N n → n < x.heap.size) (hat : At 4 Mv.cs x A ms) => append_copy (P := Tryz.prog) (sz := 4) (cs := Mv.cs) (x := x) (t := 25) (ty := 25) (fun _ => rfl) (by decide) Tryz.underlying25 i21 i22 i23 i24 i25 (by decide) b N hb hB c hat hm
  clear s1 s2 hne hat hat2 i11 i12 i13 i14 i15 i21 i22 i23 i24 i25 hn hm
  go_enter Tryz.func7, Tryz.ntmps7
  go_wp2
  refine region_rg (CopyJ l0 l1 rs ms w) (Gr w.heap.size) (CopyF rs ms w.heap.size) (by kernel_rfl) (by kernel_rfl) (by kernel_rfl) (by kernel_rfl) ?hJ (fun s v x x' _ g h => h.keep g) ?hstep ?hend
  case hJ =>
    refine CopyJ.below (x := (w.alloc _).alloc _) ?_ (Below.drew (Below.refl _ _))
    have hk := Lib.hid fun k (hk : k < w.heap.size) (_ : k ≠ w.heap.size) => (Below.heap_alloc (w.alloc (.cells #[.int .i64 l0, .int .i64 l1, .slice A rs.length c, .slice A2 ms.length c2] 27)) (.cells #[.int .i64 0, .int .i64 0, .slice none 0 0, .slice none 0 0] 27) k (by simp; omega)).trans (Below.heap_alloc _ _ k hk)
    exact ⟨by go_grown, by simp, by unfold Zb; (repeat (first | assumption | (refine bk_new _ _ ?_; (simp; done)) | refine bk_drew ?_ | refine bk_alloc ?_ _ | refine bk_set ?_ (by simp <;> omega) _)), _, _, by (repeat (first | assumption | (refine bk_new _ _ ?_; (simp; done)) | refine bk_drew ?_ | refine bk_alloc ?_ _ | refine bk_set ?_ (by simp <;> omega) _)), s1'.out.keep (by simp; omega) hk.out, s2'.out.keep (by simp; omega) hk.out⟩
  case hstep => 
    intro o ho
    simp only [List.mem_cons, List.not_mem_nil, or_false] at ho
    rcases ho with rfl | rfl | rfl | rfl | rfl | rfl | rfl | rfl | rfl | rfl | rfl | rfl
    all_goals intro a x hJ hlook
    · refine wp_val (v := .slice (some ⟨x.heap.size, 0, none⟩) 0 0) (x' := x.alloc (.cells #[] 62)) (by kernel_rfl) ⟨hJ.below (new_below _ _), .of_below (new_below _ _), _, rfl, ?_⟩
      intro d hd
      simp at hd
      subst hd
      unfold CopyF
      rw [if_pos (by decide)]
      exact ⟨x.heap.size, rfl, by have := hJ.2.1; omega⟩
    · simp [Oper.looksAt, Op.operands] at hlook
      refine wp_val (v := .pointer (some ⟨w.heap.size, 2, none⟩)) (x' := x) ?_ ⟨hJ, .refl _ _, _, rfl, ?_⟩
      · simp [execOp, go_sem, Act.eval, hlook]
      intro d hd
      simp at hd
      subst hd
      unfold CopyF
      simp
    · simp [Oper.looksAt, Op.operands] at hlook
      obtain ⟨v, h4, hv⟩ := hlook
      unfold CopyF at hv
      simp at hv
      subst hv
      obtain ⟨v2, v3, hB, hs2, hs3⟩ := hJ.2.2.2
      have C := bk4 hB
      refine wp_val (v := v2) (x' := x) ?_ ⟨hJ, .refl _ _, _, rfl, ?_⟩
      · simp [execOp, go_sem, Act.eval, h4, C]
      intro d hd
      simp at hd
      subst hd
      unfold CopyF
      simpa using hs2
    · have h3 := hlook 3 (List.contains_iff_mem.1 (by kernel_rfl))
      have h5 := hlook 5 (List.contains_iff_mem.1 (by kernel_rfl))
      simp at h3 h5
      obtain ⟨u, e3, h3⟩ := h3
      obtain ⟨v, e5, h5⟩ := h5
      unfold CopyF at h3 h5
      simp at h3 h5
      obtain ⟨b, rfl, hbn⟩ := h3
      obtain ⟨A', c', rfl, hat, -⟩ := h5
      obtain ⟨v', x', hr, hb, A2', c2', e', hat2, hne⟩ := (hI1).out x b (fun n => n = w.heap.size ∨ n = w.heap.size + 1) A' c' (by rintro (h | h) <;> simp [h] at hbn) (by intro n hn; have := hJ.2.1; rcases hn with rfl | rfl <;> omega) hat
      refine wp_app (.tmp 3) (.tmp 5) 24 rfl (by simp [Act.eval, e3]) (by simp [Act.eval, e5]) hr ⟨hJ.below hb, .of_below hb, _, rfl, ?_⟩
      intro d hd
      simp at hd
      subst hd
      unfold CopyF
      simp
      exact ⟨A2', c2', e', hat2, fun _ => hne⟩
    · refine wp_val (v := .slice (some ⟨x.heap.size, 0, none⟩) 0 0) (x' := x.alloc (.cells #[] 64)) (by kernel_rfl) ⟨hJ.below (new_below _ _), .of_below (new_below _ _), _, rfl, ?_⟩
      intro d hd
      simp at hd
      subst hd
      unfold CopyF
      rw [if_pos (by decide)]
      exact ⟨x.heap.size, rfl, by have := hJ.2.1; omega⟩
    · simp [Oper.looksAt, Op.operands] at hlook
      refine wp_val (v := .pointer (some ⟨w.heap.size, 3, none⟩)) (x' := x) ?_ ⟨hJ, .refl _ _, _, rfl, ?_⟩
      · simp [execOp, go_sem, Act.eval, hlook]
      intro d hd
      simp at hd
      subst hd
      unfold CopyF
      simp
    · simp [Oper.looksAt, Op.operands] at hlook
      obtain ⟨v, h4, hv⟩ := hlook
      unfold CopyF at hv
      simp at hv
      subst hv
      obtain ⟨v2, v3, hB, hs2, hs3⟩ := hJ.2.2.2
      have C := bk4 hB
      refine wp_val (v := v3) (x' := x) ?_ ⟨hJ, .refl _ _, _, rfl, ?_⟩
      · simp [execOp, go_sem, Act.eval, h4, C]
      intro d hd
      simp at hd
      subst hd
      unfold CopyF
      simpa using hs3
    · have h3 := hlook 7 (List.contains_iff_mem.1 (by kernel_rfl))
      have h5 := hlook 9 (List.contains_iff_mem.1 (by kernel_rfl))
      simp at h3 h5
      obtain ⟨u, e3, h3⟩ := h3
      obtain ⟨v, e5, h5⟩ := h5
      unfold CopyF at h3 h5
      simp at h3 h5
      obtain ⟨b, rfl, hbn⟩ := h3
      obtain ⟨A', c', rfl, hat, -⟩ := h5
      obtain ⟨v', x', hr, hb, A2', c2', e', hat2, hne⟩ := (hI2).out x b (fun n => n = w.heap.size ∨ n = w.heap.size + 1) A' c' (by rintro (h | h) <;> simp [h] at hbn) (by intro n hn; have := hJ.2.1; rcases hn with rfl | rfl <;> omega) hat
      refine wp_app (.tmp 7) (.tmp 9) 25 rfl (by simp [Act.eval, e3]) (by simp [Act.eval, e5]) hr ⟨hJ.below hb, .of_below hb, _, rfl, ?_⟩
      intro d hd
      simp at hd
      subst hd
      unfold CopyF
      simp
      exact ⟨A2', c2', e', hat2, fun _ => hne⟩
    · simp [Oper.looksAt, Op.operands] at hlook
      refine wp_val (v := .pointer (some ⟨w.heap.size, 2, none⟩)) (x' := x) ?_ ⟨hJ, .refl _ _, _, rfl, ?_⟩
      · simp [execOp, go_sem, Act.eval, hlook]
      intro d hd
      simp at hd
      subst hd
      unfold CopyF
      simp
    · have h3 := hlook 11 (List.contains_iff_mem.1 (by kernel_rfl))
      have h5 := hlook 6 (List.contains_iff_mem.1 (by kernel_rfl))
      simp at h3 h5
      obtain ⟨u, e3, h3⟩ := h3
      obtain ⟨v, e5, h5⟩ := h5
      unfold CopyF at h3 h5
      simp at h3 h5
      subst h3
      have hv := h5
      obtain ⟨A', c', rfl, hat, -⟩ := h5
      obtain ⟨v2, v3, hB, hs2, hs3⟩ := hJ.2.2.2
      have C := bk4 hB
      refine wp_skp (x' := x.setCell ⟨w.heap.size, 2, none⟩ (.slice A' _ c')) ?_ ⟨hJ.set2 hv, .set _ _ _ _, _, rfl, fun d hd => by simp at hd⟩
      simp [execOp, go_sem, Act.eval, e3, e5, C]
    · simp [Oper.looksAt, Op.operands] at hlook
      refine wp_val (v := .pointer (some ⟨w.heap.size, 3, none⟩)) (x' := x) ?_ ⟨hJ, .refl _ _, _, rfl, ?_⟩
      · simp [execOp, go_sem, Act.eval, hlook]
      intro d hd
      simp at hd
      subst hd
      unfold CopyF
      simp
    · have h3 := hlook 12 (List.contains_iff_mem.1 (by kernel_rfl))
      have h5 := hlook 10 (List.contains_iff_mem.1 (by kernel_rfl))
      simp at h3 h5
      obtain ⟨u, e3, h3⟩ := h3
      obtain ⟨v, e5, h5⟩ := h5
      unfold CopyF at h3 h5
      simp at h3 h5
      subst h3
      have hv := h5
      obtain ⟨A', c', rfl, hat, -⟩ := h5
      obtain ⟨v2, v3, hB, hs2, hs3⟩ := hJ.2.2.2
      have C := bk4 hB
      refine wp_skp (x' := x.setCell ⟨w.heap.size, 3, none⟩ (.slice A' _ c')) ?_ ⟨hJ.set3 hv, .set _ _ _ _, _, rfl, fun d hd => by simp at hd⟩
      simp [execOp, go_sem, Act.eval, e3, e5, C]
  case hend =>
    intro vs x hJ hvs
    obtain ⟨h1, h2, h3, v2, v3, hB, hs2, hs3⟩ := hJ
    have C := bk4 hB
    have Z := bk4 (show x.heap[w.heap.size + 1]? = some (.cells #[.int .i64 0, .int .i64 0, .slice none 0 0, .slice none 0 0] 27 (0, 0)) from h3)
    clear hvs
    obtain ⟨A', c', rfl, a1, a2⟩ := hs2
    obtain ⟨B', d', rfl, b1, b2⟩ := hs3
    simp only [putAll, Act.put, List.setIfInBounds_toArray, List.set_cons_succ, List.set_cons_zero]
    go_wp2
    refine bodyPost_ret (v := .agg #[.int .i64 l0, .int .i64 l1, .slice A' rs.length c', .slice B' ms.length d']) ?_ rfl ⟨⟨A', c', B', d', rfl, ?_, ?_⟩, ?_⟩
    · simp [results, Tryz.results7, go_sem, Z]
    · refine Sl.at4 a1 a2
    · refine Sl.at4 b1 b2
    · go_grown
end Go.Proofs

namespace Go.Proofs
open Go.RowKit

theorem wp_ent {P : Program} {o : Oper} {a : Act} {x x' : World} {f : FuncId} {args : Array Value} {K : Act → World → Prop} {Q : Exit → Act → World → Prop} (hr : (execOp a.eval o).run P x = .ok (.enter f args) x')
    (h : Calls P f args x' fun e w' => ∃ v, e = .returned v ∧ K (a.put o.dst v) w') : o.wp P a x K Q := by
  unfold Oper.wp
  rw [hr]
  unfold Oper.upon
  refine h.mono ?_
  rintro e w' ⟨v, rfl, hk⟩
  exact hk
theorem netOfE_bad {l0 l1 : Int} {rs : List Rd} {ms : List Mv} {cask : ByteArray} {a b : Int} (h : (checkB l0 l1 rs ms).2 ≠ 0) : netOfE l0 l1 rs ms cask a b = (checkB l0 l1 rs ms).2 := by
  unfold netOfE
  simp [firstE, h]
theorem netOfV_bad {l0 l1 : Int} {rs : List Rd} {ms : List Mv} {cask : ByteArray} {a b : Int} (h : (checkB l0 l1 rs ms).2 ≠ 0) : netOfV l0 l1 rs ms cask a b = 0 := by
  unfold netOfV
  rw [if_neg (by rw [netOfE_bad h]; exact h)]

def NetJ (w : World) (o0 o1 o2 : Obj) (n : Nat) (x : World) : Prop := Below w.heap.size w x ∧ x.heap[w.heap.size]? = some o0 ∧ x.heap[w.heap.size + 1]? = some o1 ∧ x.heap[n]? = some o2
theorem NetJ.below {w : World} {o0 o1 o2 : Obj} {n : Nat} {x x' : World} (h : NetJ w o0 o1 o2 n x) (hb : Below x.heap.size x x') : NetJ w o0 o1 o2 n x' := ⟨via h.1 hb, bk_keep hb h.2.1, bk_keep hb h.2.2.1, bk_keep hb h.2.2.2⟩
def BookV (l0 l1 : Int) (rs : List Rd) (ms : List Mv) (v : Value) (x : World) : Prop := ∃ A c A2 c2, v = .agg #[.int .i64 l0, .int .i64 l1, .slice A rs.length c, .slice A2 ms.length c2] ∧ At 4 Rd.cs x A rs ∧ At 4 Mv.cs x A2 ms
def NetF (l0 l1 : Int) (rs : List Rd) (ms : List Mv) (u : Value) (cask : ByteArray) (a b V E : Int) (s : Nat) (v : Value) (x : World) : Prop :=
  if s = 33 then BookV l0 l1 rs ms v x
  else if s = 32 then v = u
  else if s = 34 then v = .string cask
  else if s = 35 then v = .agg #[.int .i64 a, .int .i64 b]
  else if s = 36 ∨ s = 31 then v = .tuple #[.int .i64 V, .int .i64 E]
  else if s = 37 ∨ s = 9 then v = .int .i64 V
  else v = .int .i64 E
theorem BookV.below {l0 l1 : Int} {rs : List Rd} {ms : List Mv} {v : Value} {x x' : World} (h : BookV l0 l1 rs ms v x) (hb : Below x.heap.size x x') : BookV l0 l1 rs ms v x' := by
  obtain ⟨A, c, A2, c2, e, h1, h2⟩ := h
  exact ⟨A, c, A2, c2, e, h1.below hb, h2.below hb⟩
theorem NetF.below {l0 l1 : Int} {rs : List Rd} {ms : List Mv} {u : Value} {cask : ByteArray} {a b V E : Int} {s : Nat} {v : Value} {x x' : World} (h : NetF l0 l1 rs ms u cask a b V E s v x) (hb : Below x.heap.size x x') : NetF l0 l1 rs ms u cask a b V E s v x' := by
  unfold NetF at *
  split
  · rw [if_pos (by assumption)] at h; exact h.below hb
  · rw [if_neg (by assumption)] at h; exact h

end Go.Proofs

set_option linter.unusedSimpArgs false
set_option linter.unusedVariables false
namespace Go.Proofs
open Go.RowKit

/-- 'append([]T{}, xs...)': what comes back is the call's own. -/
theorem append_copy_own {P : Program} {α : Type} {sz : Nat} {cs : α → List Value} (hsz : ∀ y, (cs y).length = sz) (hp : 0 < sz) {x : World} {t ty e : TypeId} {i : TypeInfo} {z : Value} {bytes : Nat}
    (ht : P.underlying t = some (.slice e)) (hi : P.info? e = some i) (hz : i.zero = some z) (hs : i.size = sz) (hzs : z.cells.size = sz) (hby : i.bytes = bytes) (hbb : bytes ≤ 1000)
    (b base : Nat) (hbb2 : base ≤ b) (hblk : x.heap[b]? = some (.cells #[] e (0, 0))) (hbs : base ≤ x.heap.size) {l : List α} {A : Option Addr} (c : Nat) (hat : At sz cs x A l) (hl : l.length ≤ 1000) :
    ∃ v' x', (Builtin.append_ #[t, t] ty #[.slice (some ⟨b, 0, none⟩) 0 0, .slice A l.length c]).run P x = .ok v' x' ∧ Below x.heap.size x x' ∧ x'.ownsRow base e sz v' l.length (l.flatMap cs) := by
  cases l with
  | nil =>
    refine ⟨.slice (some ⟨b, 0, none⟩) 0 0, x, ?_, Below.refl _ _, by simp, .inr ⟨b, 0, #[], rfl, hbb2, hblk, Nat.le_refl _, Nat.zero_le _, by simp, by simp⟩⟩
    cases A with
    | none => simp [Builtin.append_, run_underlying ht, sizeOf, typeInfo, hi, Builtin.lenOf, Builtin.firstCells, loadCells, loadCellsFrom, storeCells]
    | some a => simp [Builtin.append_, run_underlying ht, sizeOf, typeInfo, hi, Builtin.lenOf, Builtin.firstCells, loadCells, loadCellsFrom, storeCells]
  | cons y l' =>
    obtain ⟨l, hl'⟩ : ∃ l, y :: l' = l := ⟨_, rfl⟩
    have hne : 0 < l.length := by rw [← hl']; simp
    rw [hl'] at hat hl ⊢
    obtain ⟨a, rfl⟩ : ∃ a, A = some a := by
      obtain ⟨b', o', h, -⟩ := hat 0 y (by rw [← hl']; rfl)
      exact ⟨_, h⟩
    have hfl := flatB_len cs sz hsz l
    have hnews := atB_news hsz hat
    have hbt : l.length * bytes ≤ 1000 * 1000 := Nat.mul_le_mul hl hbb
    subst hs
    subst hby
    have hr := run_append_grow (P := P) (w := x) t ty e i z ht hi hz ⟨b, 0, none⟩ 0 0 [] (by simp) (by simp) a l.length c (l.flatMap cs) hfl hnews (by omega) (by omega) (growslice_fits (by omega) (by rw [Nat.zero_add]; omega))
    simp only [Nat.zero_add] at hr
    have hge := grownCap_ge x l.length 0 e
    have hcm : grownCap x l.length 0 e ≤ maxLen := grownCap_le_maxLen x l.length 0 e (by unfold maxLen; omega)
    have hb' : Below x.heap.size x (x.drew.alloc (.cells (([] : List Value).toArray ++ (l.flatMap cs).toArray ++ Builtin.zeroCells z.cells (grownCap x l.length 0 e - l.length)) e)) := ((Below.refl _ x).drew).alloc (by simp) _
    refine ⟨_, _, hr, hb', hfl, .inr ⟨x.heap.size, _, _, rfl, hbs, heap_alloc_new x.drew _, hge, hcm, ?_, ?_⟩⟩
    · simp only [Array.size_append, List.size_toArray, size_zeroCells, hzs, hfl, List.length_nil, Nat.zero_add, ← Nat.add_mul]
      congr 1
      omega
    · simp only [Array.toList_append, List.nil_append]
      rw [← hfl]
      exact List.take_left
section
variable {P : Program} {ops : Array Oper}
theorem wpList_app {rest : List Oper} {o : Oper} {a : Act} {x x' : World} {v1 v2 v' : Value} {Q : Exit → Act → World → Prop} (hgd : o.guard = none) (s y : Operand) (t : TypeId)
    (ho : o.op = .call { callee := .builtin .append, args := #[s, y], argTypes := #[t, t] }) (hs : a.eval s = v1) (hy : a.eval y = v2)
    (hr : (Builtin.append_ #[t, t] o.type #[v1, v2]).run P x = .ok v' x') (h : wpList P ops Q rest (a.put o.dst v') x') : wpList P ops Q (o :: rest) a x := by
  refine wpList_plain hgd fun K hK => ?_
  unfold Oper.wp execOp
  simp only [ho, resolve, invoke, builtin, Sem.run_bind, Sem.run_pure, Result.andThen_ok, List.map_toArray, List.map_cons, List.map_nil, hs, hy, hr]
  exact hK _ _ h
end
set_option maxRecDepth 100000 in
set_option maxHeartbeats 1000000 in
theorem copyInts_any (A : Option Addr) (l : List Int) (c : Nat) (w : World) (hl : l.length ≤ 1000) (hat : At 1 Ic w A l) :
    Calls Tryz.prog 9 #[.slice A l.length c] w fun e w' => (∃ v, e = .returned v ∧ w'.ownsRow w.heap.size 3 1 v l.length (l.flatMap Ic)) ∧ Below w.heap.size w w' := by
  obtain ⟨i1, z1, i11, i12, i13, i14, i15⟩ := info_of (t := 3) (n := 1) (b := 8) (by kernel_rfl)
  have hI := Lib.hid fun (x : World) (b base : Nat) (h1 : base ≤ b) (h2 : x.heap[b]? = some (.cells #[] 3 (0, 0))) (h3 : base ≤ x.heap.size) (hat : At 1 Ic x A l) => append_copy_own (P := Tryz.prog) (sz := 1) (cs := Ic) (x := x) (t := 28) (ty := 28) (fun _ => rfl) (by decide) Tryz.underlying28 i11 i12 i13 i14 i15 (by decide) b base h1 h2 h3 c hat hl
  have hat' := Lib.hid (hat.below (new_below w (.cells #[] 3)))
  obtain ⟨v', x', hr, hb, hown⟩ := hI.out (w.alloc (.cells #[] 3)) w.heap.size w.heap.size (Nat.le_refl _) (bk_new _ _ rfl) (by simp) hat'.out
  have hr' := Lib.hid hr
  have hown' := Lib.hid hown
  have hbw := via (new_below _ _) hb
  clear hr hown hI i11 i12 i13 i14 i15 hat
  go_enter Tryz.func9, Tryz.ntmps9
  go_wp2_with (at_builtin; refine wpList_app rfl _ _ 28 rfl rfl rfl hr'.out ?_)
  refine bodyPost_ret (v := v') ?_ rfl ⟨⟨v', rfl, hown'.out⟩, hbw⟩
  simp [results, Tryz.results9, go_sem]
set_option maxRecDepth 100000 in
set_option maxHeartbeats 1000000 in
theorem clone_any (A : Option Addr) (l : List Mv) (c : Nat) (w : World) (hl : l.length ≤ 1000) (hat : At 4 Mv.cs w A l) :
    Calls Tryz.prog 60 #[.slice A l.length c] w fun e w' => (∃ A' c', e = .returned (.slice A' l.length c') ∧ At 4 Mv.cs w' A' l ∧ ∀ p, A' = some p → w.heap.size ≤ p.block) ∧ Below w.heap.size w w' := by
  cases A with
  | none =>
    have h0 : l = [] := by
      cases l with
      | nil => rfl
      | cons y l' =>
        obtain ⟨b, o, h, -⟩ := hat 0 y rfl
        cases h
    subst h0
    clear hat hl
    simp only [List.length_nil]
    have hnil : ∀ W, Sem.run Tryz.prog (binOp .eql 25 (.slice none 0 c) (.slice none 0 0)) W = .ok (.bool true) W := fun _ => by kernel_rfl
    go_enter Tryz.func60, Tryz.ntmps60
    go_wp2
    go_ret
    exact ⟨⟨none, 0, rfl, fun k x hx => by simp at hx, fun p hp => by cases hp⟩, Below.refl _ _⟩
  | some a =>
  obtain ⟨i1, z1, i11, i12, i13, i14, i15⟩ := info_of (t := 64) (n := 4) (b := 48) (by kernel_rfl)
  have hI := Lib.hid fun (x : World) (b base : Nat) (h1 : base ≤ b) (h2 : x.heap[b]? = some (.cells #[] 64 (0, 0))) (h3 : base ≤ x.heap.size) (hat : At 4 Mv.cs x (some a) l) => append_copy_own (P := Tryz.prog) (sz := 4) (cs := Mv.cs) (x := x) (t := 25) (ty := 25) (fun _ => rfl) (by decide) Tryz.underlying25 i11 i12 i13 i14 i15 (by decide) b base h1 h2 h3 c hat hl
  have hat' := Lib.hid (hat.below (new_below w (.cells #[] 64)))
  obtain ⟨v', x', hr, hb, hown⟩ := hI.out (w.alloc (.cells #[] 64)) w.heap.size w.heap.size (Nat.le_refl _) (bk_new _ _ rfl) (by simp) hat'.out
  obtain ⟨A3, c3, rfl, hat3⟩ := at_of_owns (cs := Mv.cs) (sz := 4) (fun _ => rfl) hown
  have hf : ∀ p, A3 = some p → w.heap.size ≤ p.block := by
    rintro p rfl
    rcases hown.2 with ⟨h, -⟩ | ⟨g, cap, cur, h, h2, -⟩
    · cases h
    · injection h with h
      injection h with h
      subst h
      exact h2
  have hr' := Lib.hid hr
  have hat4 := Lib.hid hat3
  have hf' := Lib.hid hf
  have hbw := via (new_below _ _) hb
  clear hr hown hI i11 i12 i13 i14 i15 hat hat3 hf
  have hnil : ∀ W, Sem.run Tryz.prog (binOp .eql 25 (.slice (some a) l.length c) (.slice none 0 0)) W = .ok (.bool false) W := fun _ => by kernel_rfl
  go_enter Tryz.func60, Tryz.ntmps60
  go_wp2_with (at_builtin; refine wpList_app rfl _ _ 25 rfl rfl rfl hr'.out ?_)
  refine bodyPost_ret (v := .slice A3 l.length c3) ?_ rfl ⟨⟨A3, c3, rfl, hat4.out, hf'.out⟩, hbw⟩
  simp [results, Tryz.results60, go_sem]
end Go.Proofs
