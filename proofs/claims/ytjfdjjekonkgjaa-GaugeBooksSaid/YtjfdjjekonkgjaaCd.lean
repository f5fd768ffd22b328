import Derived.Test.YtjfdjjekonkgjaaF
import Derived.Test.YtjfdjjekonkgjaaBk2
set_option linter.unusedSimpArgs false
set_option linter.unusedVariables false
namespace Go.Proofs
open Go.RowKit

theorem take_snoc_all {α} {P : α → Prop} {l : List α} {k : Nat} {x : α} (hx : l[k]? = some x) (h : ∀ y ∈ l.take k, P y) (hp : P x) : ∀ y ∈ l.take (k + 1), P y := by
  intro y hy
  rw [List.take_add_one, hx] at hy
  rcases List.mem_append.1 hy with h1 | h1
  · exact h y h1
  · simp at h1; subst h1; exact hp
def Fewish (rs : List Rd) (ms : List Mv) : Prop :=
  rs.length ≤ 42 ∧ ms.length ≤ 62 ∧ (∀ x ∈ rs, x.c.size ≤ 20) ∧ ∀ x ∈ ms, x.f.size ≤ 20 ∧ x.t.size ≤ 20
def FewSaid (rs : List Rd) (ms : List Mv) (e : Ending) : Prop := ∃ r, e = .returned (.bool r) ∧ (r = true → Fewish rs ms)

set_option maxRecDepth 100000 in
set_option maxHeartbeats 2000000 in
theorem few_any (l0 l1 : Int) (A A2 : Option Addr) (rs : List Rd) (ms : List Mv) (c c2 : Nat) (w : World)
    (hs : ∀ x ∈ rs, x.c.size ≤ 9223372036854775807) (hat : At 4 Rd.cs w A rs)
    (hs2 : ∀ x ∈ ms, x.f.size ≤ 9223372036854775807 ∧ x.t.size ≤ 9223372036854775807) (hat2 : At 4 Mv.cs w A2 ms) :
    Calls Try.prog 26 #[.agg #[.int .i64 l0, .int .i64 l1, .slice A rs.length c, .slice A2 ms.length c2]] w fun e w' =>
      FewSaid rs ms e ∧ Below w.heap.size w w' := by
  obtain ⟨n, hn⟩ : ∃ n, rs.length = n := ⟨_, rfl⟩
  obtain ⟨m, hm⟩ : ∃ n, ms.length = n := ⟨_, rfl⟩
  have hn' := Lib.hid hn
  have hm' := Lib.hid hm
  have hat' := Lib.hid hat
  have hat2' := Lib.hid hat2
  have hs' := Lib.hid hs
  have hs2' := Lib.hid hs2
  rw [hn, hm]
  clear hn hm hat hat2 hs hs2
  by_cases hcn : n ≤ 42 ∧ (n ≤ 8 ∨ 40 < n)
  case neg =>
    by_cases n8 : 8 < (n : Int)
    all_goals by_cases n40 : (n : Int) ≤ 40
    all_goals by_cases n42 : 42 < (n : Int)
    all_goals try (exfalso; omega)
    all_goals clear hcn
    all_goals go_enter Try.func26, Try.ntmps26
    all_goals go_wp2
    all_goals
      refine bodyPost_ret (v := .bool false) ?_ rfl ⟨⟨false, rfl, fun h => nomatch h⟩, ?_⟩
      · simp [results, Try.results26, go_sem]
      · go_grown
  by_cases hcm : m ≤ 62 ∧ (m ≤ 8 ∨ 60 < m)
  case neg =>
    by_cases n8 : 8 < (n : Int)
    all_goals by_cases n40 : (n : Int) ≤ 40
    all_goals by_cases n42 : 42 < (n : Int)
    all_goals try (exfalso; omega)
    all_goals by_cases m8 : 8 < (m : Int)
    all_goals by_cases m60 : (m : Int) ≤ 60
    all_goals by_cases m62 : 62 < (m : Int)
    all_goals try (exfalso; omega)
    all_goals clear hcn hcm
    all_goals go_enter Try.func26, Try.ntmps26
    all_goals go_wp2
    all_goals
      refine bodyPost_ret (v := .bool false) ?_ rfl ⟨⟨false, rfl, fun h => nomatch h⟩, ?_⟩
      · simp [results, Try.results26, go_sem]
      · go_grown
  by_cases n8 : 8 < (n : Int)
  all_goals by_cases n40 : (n : Int) ≤ 40
  all_goals by_cases n42 : 42 < (n : Int)
  all_goals try (exfalso; omega)
  all_goals by_cases m8 : 8 < (m : Int)
  all_goals by_cases m60 : (m : Int) ≤ 60
  all_goals by_cases m62 : 62 < (m : Int)
  all_goals try (exfalso; omega)
  all_goals
    obtain ⟨hcn, -⟩ := hcn
    obtain ⟨hcm, -⟩ := hcm
    go_enter Try.func26, Try.ntmps26
    go_wp2
    clear n8 n40 n42 m8 m60 m62
    go_loopw [3] (fun i wr => ∃ k : Nat, k ≤ n ∧ i = .int .i64 k ∧ Hid (∀ x ∈ rs.take k, x.c.size ≤ 20) ∧ Below w.heap.size w wr ∧ wr.heap[w.heap.size]? = some (.cells #[.int .i64 l0, .int .i64 l1, .slice A n c, .slice A2 m c2] 49 (0, 0))) (fun i _ => n - (intOf i).toNat)
    case atStart => exact ⟨0, Nat.zero_le _, rfl, by simp [Hid], new_below _ _, by (repeat (first | assumption | exact bk_new _ _ (by simp) | refine bk_drew ?_ | refine bk_alloc ?_ _ | refine bk_set ?_ (by simp <;> omega) _))⟩
    case round =>
      obtain ⟨k, hk, rfl, hall, hbw, B0⟩ := hrel
      have C0 := bk4 B0
      by_cases hlt : k < n
      · obtain ⟨x, hx⟩ : ∃ x, rs[k]? = some x := ⟨_, List.getElem?_eq_getElem (by rw [hn'.out]; exact hlt)⟩
        obtain ⟨b, o, rfl, hbl, hc⟩ := (hat'.out.below hbw) k x hx
        have hx' := Lib.hid hx
        have hsx := hs'.out x (List.mem_of_getElem? hx)
        obtain ⟨xc, xd, xl, xh⟩ := x
        have c0 := hc 0 _ rfl
        dsimp only at c0 hsx
        simp only [Nat.add_zero] at c0
        clear hx hc
        by_cases g1 : 20 < (xc.size : Int)
        · go_wp2
          refine bodyPost_ret (v := .bool false) ?_ rfl ⟨⟨false, rfl, fun h => nomatch h⟩, ?_⟩
          · simp [results, Try.results26, go_sem]
          · go_grown
        · have hgo := Lib.hid (take_snoc_all (P := fun x : Rd => x.c.size ≤ 20) hx'.out hall.out (by dsimp only; omega))
          go_wp2
          go_roundw
          case rel => exact ⟨k + 1, by omega, by go_num, hgo.out, hbw, B0⟩
          case measure => simp [intOf]; omega
      · have hkn : k = n := by omega
        have hall2 : Hid (∀ x ∈ rs, x.c.size ≤ 20) := Lib.hid (by have := hall.out; rwa [List.take_of_length_le (by rw [hn'.out]; omega)] at this)
        clear hall
        go_wp2
        go_loopw [4] (fun i wr => ∃ k : Nat, k ≤ m ∧ i = .int .i64 k ∧ Hid (∀ x ∈ ms.take k, x.f.size ≤ 20 ∧ x.t.size ≤ 20) ∧ Below w.heap.size w wr ∧ wr.heap[w.heap.size]? = some (.cells #[.int .i64 l0, .int .i64 l1, .slice A n c, .slice A2 m c2] 49 (0, 0))) (fun i _ => m - (intOf i).toNat)
        case atStart => exact ⟨0, Nat.zero_le _, rfl, by simp [Hid], hbw, B0⟩
        case round =>
          obtain ⟨k2, hk2, rfl, hall, hbw, B0⟩ := hrel
          have C0 := bk4 B0
          by_cases hlt2 : k2 < m
          · obtain ⟨x, hx⟩ : ∃ x, ms[k2]? = some x := ⟨_, List.getElem?_eq_getElem (by rw [hm'.out]; exact hlt2)⟩
            obtain ⟨b, o, rfl, hbl, hc⟩ := (hat2'.out.below hbw) k2 x hx
            have hx' := Lib.hid hx
            have hsx := hs2'.out x (List.mem_of_getElem? hx)
            obtain ⟨xd, xf, xt, xv⟩ := x
            have c1 := hc 1 _ rfl
            have c2 := hc 2 _ rfl
            dsimp only at c1 c2 hsx
            obtain ⟨hsx1, hsx2⟩ := hsx
            clear hx hc
            by_cases g1 : 20 < (xf.size : Int)
            · go_wp2
              refine bodyPost_ret (v := .bool false) ?_ rfl ⟨⟨false, rfl, fun h => nomatch h⟩, ?_⟩
              · simp [results, Try.results26, go_sem]
              · go_grown
            · by_cases g2 : 20 < (xt.size : Int)
              · go_wp2
                refine bodyPost_ret (v := .bool false) ?_ rfl ⟨⟨false, rfl, fun h => nomatch h⟩, ?_⟩
                · simp [results, Try.results26, go_sem]
                · go_grown
              · have hgo := Lib.hid (take_snoc_all (P := fun x : Mv => x.f.size ≤ 20 ∧ x.t.size ≤ 20) hx'.out hall.out ⟨by dsimp only; omega, by dsimp only; omega⟩)
                go_wp2
                go_roundw
                case rel => exact ⟨k2 + 1, by omega, by go_num, hgo.out, hbw, B0⟩
                case measure => simp [intOf]; omega
          · have hkm : k2 = m := by omega
            go_wp2
            refine bodyPost_ret (v := .bool true) ?_ rfl ⟨⟨true, rfl, fun _ => ⟨by rw [hn'.out]; exact hcn, by rw [hm'.out]; exact hcm, hall2.out, ?_⟩⟩, ?_⟩
            · simp [results, Try.results26, go_sem]
            · have := hall.out
              rwa [List.take_of_length_le (by rw [hm'.out]; omega)] at this
            · go_grown
end Go.Proofs
