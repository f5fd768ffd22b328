import Derived.Test.YtmnjoamkaapjcaaGreatMg23
import Derived.Test.YtmnjoamkaapjcaaGreatMg35
import Derived.Laws.StructEq
set_option linter.unusedSimpArgs false
set_option linter.unusedVariables false
namespace Go.Proofs
open Go.RowKit

def FewishE (rs : List Rd) (ms : List Mv) : Prop :=
  (rs.length ≤ 8 ∨ 40 < rs.length) ∧ rs.length ≤ 42 ∧ ms.length ≤ 62 ∧ (∀ x ∈ rs, x.c.size ≤ 20) ∧ ∀ x ∈ ms, x.f.size ≤ 20 ∧ x.t.size ≤ 20
def FewSaidE (rs : List Rd) (ms : List Mv) (e : Ending) : Prop := ∃ r, e = .returned (.bool r) ∧ (r = true → FewishE rs ms)

set_option maxRecDepth 100000 in
set_option maxHeartbeats 2000000 in
theorem few8_any (l0 l1 : Int) (A A2 : Option Addr) (rs : List Rd) (ms : List Mv) (c c2 : Nat) (w : World)
    (hs : ∀ x ∈ rs, x.c.size ≤ 9223372036854775807) (hat : At 4 Rd.cs w A rs)
    (hs2 : ∀ x ∈ ms, x.f.size ≤ 9223372036854775807 ∧ x.t.size ≤ 9223372036854775807) (hat2 : At 4 Mv.cs w A2 ms) :
    Calls Tryz.prog 5 #[.agg #[.int .i64 l0, .int .i64 l1, .slice A rs.length c, .slice A2 ms.length c2]] w fun e w' =>
      FewSaidE rs ms e ∧ Below w.heap.size w w' := by
  obtain ⟨n, hn⟩ : ∃ n, rs.length = n := ⟨_, rfl⟩
  obtain ⟨m, hm⟩ : ∃ n, ms.length = n := ⟨_, rfl⟩
  have hn' := Lib.hid hn
  have hm' := Lib.hid hm
  have hat' := Lib.hid hat
  have hat2' := Lib.hid hat2
  have hs' := Lib.hid hs
  have hs2' := Lib.hid hs2
  rw [hn, hm]
  clear hn hm hat hat2 hs hs2
  by_cases hcn : n ≤ 42 ∧ (n ≤ 8 ∨ 40 < n)
  case neg =>
    by_cases n8 : 8 < (n : Int)
    all_goals by_cases n40 : (n : Int) ≤ 40
    all_goals by_cases n42 : 42 < (n : Int)
    all_goals try (exfalso; omega)
    all_goals clear hcn
    all_goals go_enter Tryz.func5, Tryz.ntmps5
    all_goals go_wp2
    all_goals
      refine bodyPost_ret (v := .bool false) ?_ rfl ⟨⟨false, rfl, fun h => nomatch h⟩, ?_⟩
      · simp [results, Tryz.results5, go_sem]
      · go_grown
  by_cases hcm : m ≤ 62 ∧ (m ≤ 8 ∨ 60 < m)
  case neg =>
    by_cases n8 : 8 < (n : Int)
    all_goals by_cases n40 : (n : Int) ≤ 40
    all_goals by_cases n42 : 42 < (n : Int)
    all_goals try (exfalso; omega)
    all_goals by_cases m8 : 8 < (m : Int)
    all_goals by_cases m60 : (m : Int) ≤ 60
    all_goals by_cases m62 : 62 < (m : Int)
    all_goals try (exfalso; omega)
    all_goals clear hcn hcm
    all_goals go_enter Tryz.func5, Tryz.ntmps5
    all_goals go_wp2
    all_goals
      refine bodyPost_ret (v := .bool false) ?_ rfl ⟨⟨false, rfl, fun h => nomatch h⟩, ?_⟩
      · simp [results, Tryz.results5, go_sem]
      · go_grown
  by_cases n8 : 8 < (n : Int)
  all_goals by_cases n40 : (n : Int) ≤ 40
  all_goals by_cases n42 : 42 < (n : Int)
  all_goals try (exfalso; omega)
  all_goals by_cases m8 : 8 < (m : Int)
  all_goals by_cases m60 : (m : Int) ≤ 60
  all_goals by_cases m62 : 62 < (m : Int)
  all_goals try (exfalso; omega)
  all_goals
    obtain ⟨hcn, hc8⟩ := hcn
    have hc8' := Lib.hid hc8
    clear hc8
    obtain ⟨hcm, -⟩ := hcm
    go_enter Tryz.func5, Tryz.ntmps5
    go_wp2
    clear n8 n40 n42 m8 m60 m62
    go_loopw [3] (fun i wr => ∃ k : Nat, k ≤ n ∧ i = .int .i64 k ∧ Hid (∀ x ∈ rs.take k, x.c.size ≤ 20) ∧ Below w.heap.size w wr ∧ wr.heap[w.heap.size]? = some (.cells #[.int .i64 l0, .int .i64 l1, .slice A n c, .slice A2 m c2] 27 (0, 0))) (fun i _ => n - (intOf i).toNat)
    case atStart => exact ⟨0, Nat.zero_le _, rfl, by simp [Hid], new_below _ _, by (repeat (first | assumption | (refine bk_new _ _ ?_; (simp; done)) | refine bk_drew ?_ | refine bk_alloc ?_ _ | refine bk_set ?_ (by simp <;> omega) _))⟩
    case round =>
      obtain ⟨k, hk, rfl, hall, hbw, B0⟩ := hrel
      have C0 := bk4 B0
      by_cases hlt : k < n
      · obtain ⟨x, hx⟩ : ∃ x, rs[k]? = some x := ⟨_, List.getElem?_eq_getElem (by rw [hn'.out]; exact hlt)⟩
        obtain ⟨b, o, rfl, hbl, hc⟩ := (hat'.out.below hbw) k x hx
        have hx' := Lib.hid hx
        have hsx := hs'.out x (List.mem_of_getElem? hx)
        obtain ⟨xc, xd, xl, xh⟩ := x
        have c0 := hc 0 _ rfl
        dsimp only at c0 hsx
        simp only [Nat.add_zero] at c0
        clear hx hc
        by_cases g1 : 20 < (xc.size : Int)
        · go_wp2
          refine bodyPost_ret (v := .bool false) ?_ rfl ⟨⟨false, rfl, fun h => nomatch h⟩, ?_⟩
          · simp [results, Tryz.results5, go_sem]
          · go_grown
        · have hgo := Lib.hid (take_snoc_all (P := fun x : Rd => x.c.size ≤ 20) hx'.out hall.out (by dsimp only; omega))
          go_wp2
          go_roundw
          case rel => exact ⟨k + 1, by omega, by go_num, hgo.out, hbw, B0⟩
          case measure => simp [intOf]; omega
      · have hkn : k = n := by omega
        have hall2 : Hid (∀ x ∈ rs, x.c.size ≤ 20) := Lib.hid (by have := hall.out; rwa [List.take_of_length_le (by rw [hn'.out]; omega)] at this)
        clear hall
        go_wp2
        go_loopw [4] (fun i wr => ∃ k : Nat, k ≤ m ∧ i = .int .i64 k ∧ Hid (∀ x ∈ ms.take k, x.f.size ≤ 20 ∧ x.t.size ≤ 20) ∧ Below w.heap.size w wr ∧ wr.heap[w.heap.size]? = some (.cells #[.int .i64 l0, .int .i64 l1, .slice A n c, .slice A2 m c2] 27 (0, 0))) (fun i _ => m - (intOf i).toNat)
        case atStart => exact ⟨0, Nat.zero_le _, rfl, by simp [Hid], hbw, B0⟩
        case round =>
          obtain ⟨k2, hk2, rfl, hall, hbw, B0⟩ := hrel
          have C0 := bk4 B0
          by_cases hlt2 : k2 < m
          · obtain ⟨x, hx⟩ : ∃ x, ms[k2]? = some x := ⟨_, List.getElem?_eq_getElem (by rw [hm'.out]; exact hlt2)⟩
            obtain ⟨b, o, rfl, hbl, hc⟩ := (hat2'.out.below hbw) k2 x hx
            have hx' := Lib.hid hx
            have hsx := hs2'.out x (List.mem_of_getElem? hx)
            obtain ⟨xd, xf, xt, xv⟩ := x
            have c1 := hc 1 _ rfl
            have c2 := hc 2 _ rfl
            dsimp only at c1 c2 hsx
            obtain ⟨hsx1, hsx2⟩ := hsx
            clear hx hc
            by_cases g1 : 20 < (xf.size : Int)
            · go_wp2
              refine bodyPost_ret (v := .bool false) ?_ rfl ⟨⟨false, rfl, fun h => nomatch h⟩, ?_⟩
              · simp [results, Tryz.results5, go_sem]
              · go_grown
            · by_cases g2 : 20 < (xt.size : Int)
              · go_wp2
                refine bodyPost_ret (v := .bool false) ?_ rfl ⟨⟨false, rfl, fun h => nomatch h⟩, ?_⟩
                · simp [results, Tryz.results5, go_sem]
                · go_grown
              · have hgo := Lib.hid (take_snoc_all (P := fun x : Mv => x.f.size ≤ 20 ∧ x.t.size ≤ 20) hx'.out hall.out ⟨by dsimp only; omega, by dsimp only; omega⟩)
                go_wp2
                go_roundw
                case rel => exact ⟨k2 + 1, by omega, by go_num, hgo.out, hbw, B0⟩
                case measure => simp [intOf]; omega
          · have hkm : k2 = m := by omega
            go_wp2
            refine bodyPost_ret (v := .bool true) ?_ rfl ⟨⟨true, rfl, fun _ => ⟨by rw [hn'.out]; exact hc8'.out, by rw [hn'.out]; exact hcn, by rw [hm'.out]; exact hcm, hall2.out, ?_⟩⟩, ?_⟩
            · simp [results, Tryz.results5, go_sem]
            · have := hall.out
              rwa [List.take_of_length_le (by rw [hm'.out]; omega)] at this
            · go_grown
end Go.Proofs

set_option linter.unusedSimpArgs false
set_option linter.unusedVariables false
namespace Go.Proofs
open Go.RowKit

set_option maxRecDepth 100000 in
set_option maxHeartbeats 4000000 in
theorem sameBook_any (l0 l1 : Int) (A A2 A' A2' : Option Addr) (rs : List Rd) (ms : List Mv) (c c2 c' c2' : Nat) (w : World) (hn : rs.length ≤ 1000) (hm : ms.length ≤ 1000)
    (hat : At 4 Rd.cs w A rs) (hat2 : At 4 Mv.cs w A2 ms) (hat' : At 4 Rd.cs w A' rs) (hat2' : At 4 Mv.cs w A2' ms) :
    Calls Tryz.prog 12 #[.agg #[.int .i64 l0, .int .i64 l1, .slice A rs.length c, .slice A2 ms.length c2], .agg #[.int .i64 l0, .int .i64 l1, .slice A' rs.length c', .slice A2' ms.length c2']] w fun e w' =>
      e = .returned (.bool true) ∧ Below w.heap.size w w' := by
  obtain ⟨n, hn0⟩ : ∃ n, rs.length = n := ⟨_, rfl⟩
  obtain ⟨m, hm0⟩ : ∃ n, ms.length = n := ⟨_, rfl⟩
  have hn' := Lib.hid hn0
  have hm' := Lib.hid hm0
  have h1 := Lib.hid hat
  have h2 := Lib.hid hat2
  have h3 := Lib.hid hat'
  have h4 := Lib.hid hat2'
  rw [hn0] at hn ⊢
  rw [hm0] at hm ⊢
  clear hn0 hm0 hat hat2 hat' hat2'
  go_enter Tryz.func12, Tryz.ntmps12
  go_wp2
  go_loopw [5] (fun i wr => ∃ k : Nat, k ≤ n ∧ i = .int .i64 k ∧ Below w.heap.size w wr ∧ wr.heap[w.heap.size]? = some (.cells #[.int .i64 l0, .int .i64 l1, .slice A n c, .slice A2 m c2] 27 (0, 0)) ∧ wr.heap[w.heap.size + 1]? = some (.cells #[.int .i64 l0, .int .i64 l1, .slice A' n c', .slice A2' m c2'] 27 (0, 0))) (fun i _ => n - (intOf i).toNat)
  case atStart => exact ⟨0, Nat.zero_le _, rfl, by go_grown, bk_alloc (bk_new _ _ rfl) _, bk_new _ _ (by simp)⟩
  case round =>
    obtain ⟨k, hk, rfl, hbw, B0, B1⟩ := hrel
    have C0 := bk4 B0
    have C1 := bk4 B1
    by_cases hlt : k < n
    · obtain ⟨p, hp⟩ : ∃ p, rs[k]? = some p := ⟨_, List.getElem?_eq_getElem (by rw [hn'.out]; exact hlt)⟩
      obtain ⟨b, o, rfl, hbb, hc⟩ := h1.out.below hbw k p hp
      obtain ⟨b2, o2, rfl, hbb2, hc2⟩ := h3.out.below hbw k p hp
      obtain ⟨xc, xd, xl, xh⟩ := p
      have x0 := hc 0 _ rfl
      have x1 := hc 1 _ rfl
      have x2 := hc 2 _ rfl
      have x3 := hc 3 _ rfl
      have y0 := hc2 0 _ rfl
      have y1 := hc2 1 _ rfl
      have y2 := hc2 2 _ rfl
      have y3 := hc2 3 _ rfl
      simp only [Nat.add_zero] at x0 y0
      dsimp only at x0 x1 x2 x3 y0 y1 y2 y3
      clear hc hc2 hp
      have hkn : (k : Int) < (n : Int) := by omega
      go_wp2_with fail
      refine region_all wr (by kernel_rfl) (by kernel_rfl) (by go_grown) ?_
      intro hgc hbx
      repeat (go_big_quiet_step (fail))
      refine wpQuiet_nil ?_
      intro wa hb hbwa hsw
      clear hgc hbx
      have hbw2 := via hbw hb
      go_wp2
      go_roundw
      case rel => exact ⟨k + 1, by omega, by go_num, hbw2, bk_keep hb B0, bk_keep hb B1⟩
      case measure => simp [intOf]; omega
    · have hkn : ¬ (k : Int) < (n : Int) := by omega
      go_wp2
      go_loopw [6] (fun i wr => ∃ k : Nat, k ≤ m ∧ i = .int .i64 k ∧ Below w.heap.size w wr ∧ wr.heap[w.heap.size]? = some (.cells #[.int .i64 l0, .int .i64 l1, .slice A n c, .slice A2 m c2] 27 (0, 0)) ∧ wr.heap[w.heap.size + 1]? = some (.cells #[.int .i64 l0, .int .i64 l1, .slice A' n c', .slice A2' m c2'] 27 (0, 0))) (fun i _ => m - (intOf i).toNat)
      case atStart => exact ⟨0, Nat.zero_le _, rfl, hbw, B0, B1⟩
      case round =>
        clear hbw B0 B1 C0 C1 hkn hlt hk
        obtain ⟨k, hk, rfl, hbw, B0, B1⟩ := hrel
        have C0 := bk4 B0
        have C1 := bk4 B1
        by_cases hlt : k < m
        · obtain ⟨p, hp⟩ : ∃ p, ms[k]? = some p := ⟨_, List.getElem?_eq_getElem (by rw [hm'.out]; exact hlt)⟩
          obtain ⟨b, o, rfl, hbb, hc⟩ := h2.out.below hbw k p hp
          obtain ⟨b2, o2, rfl, hbb2, hc2⟩ := h4.out.below hbw k p hp
          obtain ⟨xd, xf, xt, xv⟩ := p
          have x0 := hc 0 _ rfl
          have x1 := hc 1 _ rfl
          have x2 := hc 2 _ rfl
          have x3 := hc 3 _ rfl
          have y0 := hc2 0 _ rfl
          have y1 := hc2 1 _ rfl
          have y2 := hc2 2 _ rfl
          have y3 := hc2 3 _ rfl
          simp only [Nat.add_zero] at x0 y0
          dsimp only at x0 x1 x2 x3 y0 y1 y2 y3
          clear hc hc2 hp
          have hkn : (k : Int) < (m : Int) := by omega
          go_wp2_with fail
          refine region_all wr (by kernel_rfl) (by kernel_rfl) (by go_grown) ?_
          intro hgc hbx
          repeat (go_big_quiet_step (fail))
          refine wpQuiet_nil ?_
          intro wa hb hbwa hsw
          clear hgc hbx
          have hbw2 := via hbw hb
          go_wp2
          go_roundw
          case rel => exact ⟨k + 1, by omega, by go_num, hbw2, bk_keep hb B0, bk_keep hb B1⟩
          case measure => simp [intOf]; omega
        · have hkn : ¬ (k : Int) < (m : Int) := by omega
          go_wp2
          go_ret
          exact ⟨rfl, hbw⟩
end Go.Proofs
