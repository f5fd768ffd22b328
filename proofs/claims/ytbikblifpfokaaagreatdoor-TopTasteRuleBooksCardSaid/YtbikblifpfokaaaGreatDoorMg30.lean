import Derived.Test.YtbikblifpfokaaaGreatDoorMg11
import Derived.Test.YtbikblifpfokaaaGreatDoorMg12
import Derived.Test.YtbikblifpfokaaaGreatDoorMg24
set_option linter.unusedSimpArgs false
set_option linter.unusedVariables false
namespace Go.Proofs
open Go.RowKit

theorem take_all1 {α : Type} {P : α → Prop} {l : List α} {k : Nat} {x : α} (hx : l[k]? = some x) (h : ∀ y ∈ l.take k, P y) (hp : P x) : ∀ y ∈ l.take (k + 1), P y := by
  intro y hy
  rw [List.take_add_one, hx] at hy
  rcases List.mem_append.1 hy with h' | h'
  · exact h y h'
  · simp at h'
    subst h'
    exact hp
/-- What is few of a class. -/
def FewC (y : Cl) : Prop := y.nm.size ≤ 20 ∧ y.nx.length ≤ 8 ∧ y.rs.length ≤ 8 ∧ ∀ s ∈ y.rs, s.size ≤ 20
/-- What is few. -/
structure FewB (mk : List ByteArray) (cl : List Cl) : Prop where
  m : mk.length ≤ 8
  c : cl.length ≤ 10
  s : ∀ s ∈ mk, s.size ≤ 20
  y : ∀ y ∈ cl, FewC y
def FewSaid (mk : List ByteArray) (cl : List Cl) (e : Ending) : Prop := ∃ r, e = .returned (.bool r) ∧ (r = true → FewB mk cl)
set_option maxRecDepth 100000 in
set_option maxHeartbeats 2000000 in
theorem few_any (mA cA : Option Addr) (mk : List ByteArray) (cl : List Cl) (mc cc : Nat) (bg : Int) (w : World) (hat : BkAt w mA mk cA cl)
    (hsm : ∀ s ∈ mk, s.size ≤ 9223372036854775807) (hs : ∀ y ∈ cl, y.nm.size ≤ 9223372036854775807 ∧ y.nx.length ≤ 9223372036854775807 ∧ y.rs.length ≤ 9223372036854775807 ∧ ∀ s ∈ y.rs, s.size ≤ 9223372036854775807) :
    Calls Tryz.prog 5 #[.agg #[.slice mA mk.length mc, .int .i64 bg, .slice cA cl.length cc]] w fun e w' => FewSaid mk cl e ∧ Below w.heap.size w w' := by
  have hat' := Lib.hid hat
  have hsm' := Lib.hid hsm
  have hs' := Lib.hid hs
  obtain ⟨m, hm⟩ : ∃ m, mk.length = m := ⟨_, rfl⟩
  have hm' := Lib.hid hm
  obtain ⟨n, hn⟩ : ∃ n, cl.length = n := ⟨_, rfl⟩
  have hn' := Lib.hid hn
  rw [hm, hn]
  clear hm hn hat hsm hs
  by_cases m8 : 8 < (m : Int)
  · go_enter Tryz.func5, Tryz.ntmps5
    go_wp2
    (refine bodyPost_ret (v := .bool false) ?_ rfl ⟨⟨false, rfl, fun h => nomatch h⟩, by go_grown⟩; simp [results, Tryz.results5, go_sem])
  by_cases n10 : 10 < (n : Int)
  · go_enter Tryz.func5, Tryz.ntmps5
    go_wp2
    (refine bodyPost_ret (v := .bool false) ?_ rfl ⟨⟨false, rfl, fun h => nomatch h⟩, by go_grown⟩; simp [results, Tryz.results5, go_sem])
  go_enter Tryz.func5, Tryz.ntmps5
  go_wp2
  go_loopw [3] (fun j wr => ∃ k : Nat, k ≤ m ∧ j = .int .i64 k ∧ Hid (∀ s ∈ mk.take k, s.size ≤ 20) ∧ Below w.heap.size w wr ∧ wr.heap[w.heap.size]? = some (.cells #[.slice mA m mc, .int .i64 bg, .slice cA n cc] 25 (0, 0))) (fun j _ => m - (intOf j).toNat)
  case atStart => exact ⟨0, Nat.zero_le _, rfl, by unfold Hid; simp, by go_grown, bk_new _ _ rfl⟩
  case round =>
    obtain ⟨k, hk, rfl, hin, hbw, D0⟩ := hrel
    have C0 := bk3 D0
    by_cases hlt : k < m
    · obtain ⟨y, hy⟩ : ∃ y, mk[k]? = some y := ⟨_, List.getElem?_eq_getElem (by rw [hm'.out]; exact hlt)⟩
      obtain ⟨b, o, rfl, hb, hcy⟩ := (hat'.out.mks.below hbw) k y hy
      have y0 := hcy 0 _ rfl
      simp only [Nat.add_zero, Nat.mul_one] at y0
      have hkI : (k : Int) < (m : Int) := by omega
      have hy' := Lib.hid hy
      have hsy := hsm'.out y (List.mem_of_getElem? hy)
      clear hcy hy
      by_cases g1 : 20 < (y.size : Int)
      · go_wp2
        (refine bodyPost_ret (v := .bool false) ?_ rfl ⟨⟨false, rfl, fun h => nomatch h⟩, by go_grown⟩; simp [results, Tryz.results5, go_sem])
      · have hnx := Lib.hid (take_all1 (P := fun s : ByteArray => s.size ≤ 20) hy'.out hin.out (by omega))
        go_wp2
        go_roundw
        case rel => exact ⟨k + 1, by omega, by go_num, hnx, hbw, D0⟩
        case measure => simp [intOf]; omega
    · have hkI : ¬ (k : Int) < (m : Int) := by omega
      have hin2 : Hid (∀ s ∈ mk, s.size ≤ 20) := by
        have := hin.out
        rwa [List.take_of_length_le (by rw [hm'.out]; omega)] at this
      clear hin
      go_wp2
      go_loopw [4] (fun j wr => ∃ k : Nat, k ≤ n ∧ j = .int .i64 k ∧ Hid (∀ y ∈ cl.take k, FewC y) ∧ Below w.heap.size w wr ∧ wr.heap[w.heap.size]? = some (.cells #[.slice mA m mc, .int .i64 bg, .slice cA n cc] 25 (0, 0))) (fun j _ => n - (intOf j).toNat)
      case atStart => exact ⟨0, Nat.zero_le _, rfl, by unfold Hid; simp, hbw, D0⟩
      case round =>
        clear D0 hbw C0 hkI hlt hk
        obtain ⟨k, hk, rfl, hok, hbw, D0⟩ := hrel
        have C0 := bk3 D0
        by_cases hlt : k < n
        · obtain ⟨x, hx⟩ : ∃ x, cl[k]? = some x := ⟨_, List.getElem?_eq_getElem (by rw [hn'.out]; exact hlt)⟩
          obtain ⟨b, o, rfl, hb, hc⟩ := (hat'.out.cls.below hbw) k x hx
          have hrs := Lib.hid (hat'.out.rss x (List.mem_of_getElem? hx))
          have hsx := hs'.out x (List.mem_of_getElem? hx)
          have hx' := Lib.hid hx
          obtain ⟨p, hp⟩ : ∃ p, x.nx.length = p := ⟨_, rfl⟩
          have hp' := Lib.hid hp
          obtain ⟨r, hr⟩ : ∃ r, x.rs.length = r := ⟨_, rfl⟩
          have hr' := Lib.hid hr
          have c0 := hc 0 _ rfl
          have c1 := hc 1 _ rfl
          have c2 := hc 2 _ rfl
          obtain ⟨nm, nA, nx, nc, rA, rs, rc⟩ := x
          dsimp only at c0 c1 c2 hsx hp hr hrs
          rw [hp] at c1 hsx
          rw [hr] at c2 hsx
          simp only [Nat.add_zero] at c0
          obtain ⟨hs1, hs2, hs3, hs4⟩ := hsx
          have hs4' := Lib.hid hs4
          have hkI : (k : Int) < (n : Int) := by omega
          clear hc hx hp hr hs4
          by_cases g1 : 20 < (nm.size : Int)
          · go_wp2
            (refine bodyPost_ret (v := .bool false) ?_ rfl ⟨⟨false, rfl, fun h => nomatch h⟩, by go_grown⟩; simp [results, Tryz.results5, go_sem])
          by_cases g2 : 8 < (p : Int)
          · go_wp2
            (refine bodyPost_ret (v := .bool false) ?_ rfl ⟨⟨false, rfl, fun h => nomatch h⟩, by go_grown⟩; simp [results, Tryz.results5, go_sem])
          by_cases g3 : 8 < (r : Int)
          · go_wp2
            (refine bodyPost_ret (v := .bool false) ?_ rfl ⟨⟨false, rfl, fun h => nomatch h⟩, by go_grown⟩; simp [results, Tryz.results5, go_sem])
          go_wp2
          refine wp_world ?_
          intro W hW_W
          have hb_W : Below w.heap.size w W := by rw [hW_W]; go_grown
          have hbW : Below w.heap.size w W := by
            rw [hW_W]
            go_grown
          have E0 : W.heap[w.heap.size]? = some (.cells #[.slice mA m mc, .int .i64 bg, .slice (some ⟨b, o, none⟩) n cc] 25 (0, 0)) := by
            rw [hW_W]
            exact bk_keep (by go_grown) D0
          obtain ⟨h, hh⟩ : ∃ h, wr.heap.size = h := ⟨_, rfl⟩
          have hhw : w.heap.size ≤ h := by rw [← hh]; exact hbw.size
          have E1 : W.heap[h]? = some (.cells #[.string nm, .slice nA p nc, .slice rA r rc] 57 (0, 0)) := by
            rw [hW_W, ← hh]
            exact bk_new _ _ rfl
          clear hW_W
          go_loopw [6] (fun j wv => ∃ q : Nat, q ≤ r ∧ j = .int .i64 q ∧ Hid (∀ s ∈ rs.take q, s.size ≤ 20) ∧ Below w.heap.size w wv ∧ wv.heap[w.heap.size]? = some (.cells #[.slice mA m mc, .int .i64 bg, .slice (some ⟨b, o, none⟩) n cc] 25 (0, 0)) ∧ wv.heap[h]? = some (.cells #[.string nm, .slice nA p nc, .slice rA r rc] 57 (0, 0))) (fun j _ => r - (intOf j).toNat)
          case atStart => exact ⟨0, Nat.zero_le _, rfl, by unfold Hid; simp, hbW, E0, E1⟩
          case round =>
            clear hbW E0 E1 D0 C0
            obtain ⟨q, hq, rfl, hso, hbv, E0, E1⟩ := hrel
            have F0 := bk3 E0
            have F1 := bk3 E1
            by_cases hlq : q < r
            · obtain ⟨s, hs⟩ : ∃ s, rs[q]? = some s := ⟨_, List.getElem?_eq_getElem (by have := hr'.out; (try dsimp only at this); omega)⟩
              obtain ⟨b', o', rfl, hb', hcs⟩ := (hrs.out.below hbv) q s hs
              have s0 := hcs 0 _ rfl
              simp only [Nat.add_zero, Nat.mul_one] at s0
              have hqI : (q : Int) < (r : Int) := by omega
              have hs' := Lib.hid hs
              have hsz := hs4'.out s (List.mem_of_getElem? hs)
              clear hcs hs
              by_cases g4 : 20 < (s.size : Int)
              · go_wp2
                (refine bodyPost_ret (v := .bool false) ?_ rfl ⟨⟨false, rfl, fun h => nomatch h⟩, by go_grown⟩; simp [results, Tryz.results5, go_sem])
              · have hnx := Lib.hid (take_all1 (P := fun s : ByteArray => s.size ≤ 20) hs'.out hso.out (by omega))
                go_wp2
                go_roundw
                case rel => exact ⟨q + 1, by omega, by go_num, hnx, hbv, E0, E1⟩
                case measure => simp [intOf]; omega
            · have hqI : ¬ (q : Int) < (r : Int) := by omega
              have hnx : Hid (∀ y ∈ cl.take (k + 1), FewC y) := by
                have h1 := hr'.out
                have h2 := hp'.out
                try dsimp only at h1 h2
                refine take_all1 hx'.out hok.out ⟨by dsimp only; omega, by dsimp only; omega, by dsimp only; omega, ?_⟩
                have := hso.out
                rwa [List.take_of_length_le (by omega)] at this
              go_wp2
              go_roundw
              case rel => exact ⟨k + 1, by omega, by go_num, hnx, hbv, E0⟩
              case measure => simp [intOf]; omega
        · have hkI : ¬ (k : Int) < (n : Int) := by omega
          have hR : Hid (FewB mk cl) := by
            have := hok.out
            rw [List.take_of_length_le (by rw [hn'.out]; omega)] at this
            exact ⟨by rw [hm'.out]; omega, by rw [hn'.out]; omega, hin2.out, this⟩
          go_wp2
          refine bodyPost_ret (v := .bool true) ?_ rfl ⟨⟨true, rfl, fun _ => hR.out⟩, hbw⟩
          simp [results, Tryz.results5, go_sem]
end Go.Proofs

set_option linter.unusedSimpArgs false
set_option linter.unusedVariables false
namespace Go.Proofs
open Go.RowKit

/-! The panel of the example. -/
structure PanW (w : World) (g r0 r1 t : Nat) : Prop where
  gs : w.heap[g]? = some (.cells #[.int .i64 0, .int .i64 1, .int .i64 0, .int .i64 1, .int .i64 0] 3 (0, 0))
  a0 : w.heap[r0]? = some (.cells #[.int .i64 0, .int .i64 1, .int .i64 0, .int .i64 0, .int .i64 1] 3 (0, 0))
  a1 : w.heap[r1]? = some (.cells #[.int .i64 0, .int .i64 1, .int .i64 0, .int .i64 1, .int .i64 0] 3 (0, 0))
  ts : w.heap[t]? = some (.cells #[.slice (some ⟨r0, 0, none⟩) 5 5, .slice (some ⟨r1, 0, none⟩) 5 5] 26 (0, 0))
theorem PanW.below {w w' : World} {g r0 r1 t : Nat} (h : PanW w g r0 r1 t) (hb : Below w.heap.size w w') : PanW w' g r0 r1 t := ⟨bk_keep hb h.gs, bk_keep hb h.a0, bk_keep hb h.a1, bk_keep hb h.ts⟩
theorem at_block1 {w : World} {g : Nat} (l : List Nat) (h : w.heap[g]? = some (.cells (l.map fun (a : Nat) => Value.int .i64 a).toArray 3 (0, 0))) : At 1 Nc w (some ⟨g, 0, none⟩) l := by
  intro k x hx
  refine ⟨g, 0, rfl, bk_size h, fun j v hv => ?_⟩
  unfold Nc at hv
  match j, hv with
  | 0, hv =>
    simp only [List.getElem?_cons_zero, Option.some.injEq] at hv
    subst hv
    rw [bk_cell h]
    simp [hx]
set_option maxRecDepth 100000 in
theorem noPCask_any (x : Nat) (g t B : Nat) (w : World) (hx : x ≤ 1) (hB : w.heap[B]? = some (.cells #[.int .i64 2, .int .i64 2, .slice (some ⟨g, 0, none⟩) 5 5, .slice (some ⟨t, 0, none⟩) 2 2] 54 (0, 0))) :
    Calls Tryz.prog 114 #[.int .i64 x, .pointer (some ⟨B, 0, none⟩)] w fun e w' => e = .returned (.bool false) ∧ Below w.heap.size w w' := by
  have C := bk4 hB
  have hBs := bk_size hB
  have hW := Lib.hid fun W => within_any (x : Int) 0 1 W
  have hq : within (x : Int) 0 1 = true := by
    unfold within
    simp
    omega
  rw [hq] at hW
  clear hq
  go_enter Tryz.func114, Tryz.ntmps114
  go_wp2_with (go_at_call 42; refine (hW.out _).mono ?_; rintro e w' ⟨rfl, rfl⟩)
  go_ret
  exact ⟨rfl, by go_grown⟩
set_option maxRecDepth 100000 in
set_option maxHeartbeats 1000000 in
theorem indexPCask_any (A : Option Addr) (l : List Nat) (c : Nat) (g t B : Nat) (w : World) (hl : l.length ≤ 1000) (hat : At 1 Nc w A l) (hok : ∀ a ∈ l, a ≤ 1) (hB : w.heap[B]? = some (.cells #[.int .i64 2, .int .i64 2, .slice (some ⟨g, 0, none⟩) 5 5, .slice (some ⟨t, 0, none⟩) 2 2] 54 (0, 0))) :
    Calls Tryz.prog 56 #[.slice A l.length c, .func (.func 114) #[] #[.pointer (some ⟨B, 0, none⟩)]] w fun e w' => e = .returned (.int .i64 (-1)) ∧ Below w.heap.size w w' := by
  have hat' := Lib.hid hat
  have hok' := Lib.hid hok
  have hC := Lib.hid fun (y : Nat) W (hy : y ≤ 1) (hb : Below w.heap.size w W) => noPCask_any y g t B W hy (bk_keep hb hB)
  obtain ⟨m, hm⟩ : ∃ n, l.length = n := ⟨_, rfl⟩
  have hm' := Lib.hid hm
  rw [hm] at hl ⊢
  clear hat hm hok hB
  go_enter Tryz.func56, Tryz.ntmps56
  go_wp2_with fail
  go_loopw [8] (fun i wr => ∃ k : Nat, k ≤ m ∧ i = .int .i64 k ∧ Below w.heap.size w wr) (fun i _ => m - (intOf i).toNat)
  case atStart => exact ⟨0, Nat.zero_le _, rfl, Below.refl _ _⟩
  case round =>
    obtain ⟨k, hk, rfl, hbw⟩ := hrel
    by_cases hlt : k < m
    · obtain ⟨y, hy⟩ : ∃ y, l[k]? = some y := ⟨_, List.getElem?_eq_getElem (by rw [hm'.out]; exact hlt)⟩
      obtain ⟨b, o, rfl, hbb, hc⟩ := hat'.out.below hbw k y hy
      have hCy := Lib.hid fun W hb => hC.out y W (hok'.out y (List.mem_of_getElem? hy)) hb
      have y0 := hc 0 _ rfl
      simp only [Nat.add_zero, Nat.mul_one] at y0
      have hkI : (k : Int) < (m : Int) := by omega
      clear hc hy hC
      go_wp2_with (go_at_call 114; refine (hCy.out _ hbw).mono ?_; rintro e w1 ⟨rfl, hb⟩; have hbw := via hbw hb)
      go_roundw
      case rel => exact ⟨k + 1, by omega, by go_num, hbw⟩
      case measure => simp [intOf]; omega
    · have hkn : k = m := by omega
      subst hkn
      clear hC
      go_wp2
      go_ret
      exact ⟨rfl, hbw⟩
set_option maxRecDepth 100000 in
theorem containsPCask_any (A : Option Addr) (l : List Nat) (c : Nat) (g t B : Nat) (w : World) (hl : l.length ≤ 1000) (hat : At 1 Nc w A l) (hok : ∀ a ∈ l, a ≤ 1) (hB : w.heap[B]? = some (.cells #[.int .i64 2, .int .i64 2, .slice (some ⟨g, 0, none⟩) 5 5, .slice (some ⟨t, 0, none⟩) 2 2] 54 (0, 0))) :
    Calls Tryz.prog 40 #[.slice A l.length c, .func (.func 114) #[] #[.pointer (some ⟨B, 0, none⟩)]] w fun e w' => e = .returned (.bool false) ∧ Below w.heap.size w w' := by
  have hI := indexPCask_any A l c g t B w hl hat hok hB
  generalize l.length = m at *
  clear hat hok hB
  go_enter Tryz.func40, Tryz.ntmps40
  go_wp2_with (go_at_call 56; refine hI.mono ?_; rintro e w1 ⟨rfl, hb⟩)
  go_ret
  exact ⟨rfl, hb⟩
set_option maxRecDepth 100000 in
theorem noPMark_any (x : Nat) (g t B : Nat) (w : World) (hx : x ≤ 1) (hB : w.heap[B]? = some (.cells #[.int .i64 2, .int .i64 2, .slice (some ⟨g, 0, none⟩) 5 5, .slice (some ⟨t, 0, none⟩) 2 2] 54 (0, 0))) :
    Calls Tryz.prog 115 #[.int .i64 x, .pointer (some ⟨B, 0, none⟩)] w fun e w' => e = .returned (.bool false) ∧ Below w.heap.size w w' := by
  have C := bk4 hB
  have hBs := bk_size hB
  have hW := Lib.hid fun W => within_any (x : Int) 0 1 W
  have hq : within (x : Int) 0 1 = true := by
    unfold within
    simp
    omega
  rw [hq] at hW
  clear hq
  go_enter Tryz.func115, Tryz.ntmps115
  go_wp2_with (go_at_call 42; refine (hW.out _).mono ?_; rintro e w' ⟨rfl, rfl⟩)
  go_ret
  exact ⟨rfl, by go_grown⟩
set_option maxRecDepth 100000 in
set_option maxHeartbeats 1000000 in
theorem indexPMark_any (A : Option Addr) (l : List Nat) (c : Nat) (g t B : Nat) (w : World) (hl : l.length ≤ 1000) (hat : At 1 Nc w A l) (hok : ∀ a ∈ l, a ≤ 1) (hB : w.heap[B]? = some (.cells #[.int .i64 2, .int .i64 2, .slice (some ⟨g, 0, none⟩) 5 5, .slice (some ⟨t, 0, none⟩) 2 2] 54 (0, 0))) :
    Calls Tryz.prog 56 #[.slice A l.length c, .func (.func 115) #[] #[.pointer (some ⟨B, 0, none⟩)]] w fun e w' => e = .returned (.int .i64 (-1)) ∧ Below w.heap.size w w' := by
  have hat' := Lib.hid hat
  have hok' := Lib.hid hok
  have hC := Lib.hid fun (y : Nat) W (hy : y ≤ 1) (hb : Below w.heap.size w W) => noPMark_any y g t B W hy (bk_keep hb hB)
  obtain ⟨m, hm⟩ : ∃ n, l.length = n := ⟨_, rfl⟩
  have hm' := Lib.hid hm
  rw [hm] at hl ⊢
  clear hat hm hok hB
  go_enter Tryz.func56, Tryz.ntmps56
  go_wp2_with fail
  go_loopw [8] (fun i wr => ∃ k : Nat, k ≤ m ∧ i = .int .i64 k ∧ Below w.heap.size w wr) (fun i _ => m - (intOf i).toNat)
  case atStart => exact ⟨0, Nat.zero_le _, rfl, Below.refl _ _⟩
  case round =>
    obtain ⟨k, hk, rfl, hbw⟩ := hrel
    by_cases hlt : k < m
    · obtain ⟨y, hy⟩ : ∃ y, l[k]? = some y := ⟨_, List.getElem?_eq_getElem (by rw [hm'.out]; exact hlt)⟩
      obtain ⟨b, o, rfl, hbb, hc⟩ := hat'.out.below hbw k y hy
      have hCy := Lib.hid fun W hb => hC.out y W (hok'.out y (List.mem_of_getElem? hy)) hb
      have y0 := hc 0 _ rfl
      simp only [Nat.add_zero, Nat.mul_one] at y0
      have hkI : (k : Int) < (m : Int) := by omega
      clear hc hy hC
      go_wp2_with (go_at_call 115; refine (hCy.out _ hbw).mono ?_; rintro e w1 ⟨rfl, hb⟩; have hbw := via hbw hb)
      go_roundw
      case rel => exact ⟨k + 1, by omega, by go_num, hbw⟩
      case measure => simp [intOf]; omega
    · have hkn : k = m := by omega
      subst hkn
      clear hC
      go_wp2
      go_ret
      exact ⟨rfl, hbw⟩
set_option maxRecDepth 100000 in
theorem containsPMark_any (A : Option Addr) (l : List Nat) (c : Nat) (g t B : Nat) (w : World) (hl : l.length ≤ 1000) (hat : At 1 Nc w A l) (hok : ∀ a ∈ l, a ≤ 1) (hB : w.heap[B]? = some (.cells #[.int .i64 2, .int .i64 2, .slice (some ⟨g, 0, none⟩) 5 5, .slice (some ⟨t, 0, none⟩) 2 2] 54 (0, 0))) :
    Calls Tryz.prog 40 #[.slice A l.length c, .func (.func 115) #[] #[.pointer (some ⟨B, 0, none⟩)]] w fun e w' => e = .returned (.bool false) ∧ Below w.heap.size w w' := by
  have hI := indexPMark_any A l c g t B w hl hat hok hB
  generalize l.length = m at *
  clear hat hok hB
  go_enter Tryz.func40, Tryz.ntmps40
  go_wp2_with (go_at_call 56; refine hI.mono ?_; rintro e w1 ⟨rfl, hb⟩)
  go_ret
  exact ⟨rfl, hb⟩
theorem PanW.row {w : World} {g r0 r1 t : Nat} (h : PanW w g r0 r1 t) (k : Nat) (hk : k < 2) : ∃ r, ∃ l : List Nat, w.cell? ⟨t, k, none⟩ = some (.slice (some ⟨r, 0, none⟩) 5 5) ∧ At 1 Nc w (some ⟨r, 0, none⟩) l ∧ l.length = 5 ∧ ∀ a ∈ l, a ≤ 1 := by
  have T := bk2 h.ts
  match k, hk with
  | 0, _ => exact ⟨r0, [0, 1, 0, 0, 1], T.1, at_block1 _ h.a0, rfl, by decide⟩
  | 1, _ => exact ⟨r1, [0, 1, 0, 1, 0], T.2.1, at_block1 _ h.a1, rfl, by decide⟩
set_option maxRecDepth 100000 in
set_option maxHeartbeats 2000000 in
theorem checkPanel_ok (g r0 r1 t : Nat) (w : World) (hP : PanW w g r0 r1 t) :
    Calls Tryz.prog 91 #[.agg #[.int .i64 2, .int .i64 2, .slice (some ⟨g, 0, none⟩) 5 5, .slice (some ⟨t, 0, none⟩) 2 2]] w fun e w' => e = .returned (.tuple #[.int .i64 0, .int .i64 0]) ∧ Below w.heap.size w w' := by
  have hP' := Lib.hid hP
  have hW1 := Lib.hid fun W => within_any 2 1 30 W
  have hW2 := Lib.hid fun W => within_any 2 1 6 W
  rw [show within 2 1 30 = true by decide] at hW1
  rw [show within 2 1 6 = true by decide] at hW2
  have hC1 := Lib.hid fun B W (hb : Below w.heap.size w W) hB => containsPCask_any (some ⟨g, 0, none⟩) [0, 1, 0, 1, 0] 5 g t B W (by decide) (at_block1 _ (hP.below hb).gs) (by decide) hB
  rw [show ([0, 1, 0, 1, 0] : List Nat).length = 5 from rfl] at hC1
  have hU10 := Lib.hid fun W => unless_any true 10 W
  have hU8 := Lib.hid fun W => unless_any true 8 W
  have hU6 := Lib.hid fun W => unless_any true 6 W
  have hU2 := Lib.hid fun W => unless_any true 2 W
  unfold unl at hU10 hU8 hU6 hU2
  simp only [if_true] at hU10 hU8 hU6 hU2
  clear hP
  have hmf : ∀ (fn : Fn) (first cap : Array Value) (w : World), (Instr.makeFunc fn first cap).run Tryz.prog w = .ok (.func fn first cap) w := fun _ _ _ _ => rfl
  go_enter Tryz.func91, Tryz.ntmps91
  go_wp2_with (first
    | (go_at_call 42; (first | refine Calls.mono (by with_reducible exact hW1.out _) ?_ | refine Calls.mono (by with_reducible exact hW2.out _) ?_); rintro e w' ⟨rfl, rfl⟩)
    | (go_at_call 40; refine (hC1.out w.heap.size _ (by go_grown) (bk_new _ _ rfl)).mono ?_; rintro e w1 ⟨rfl, hb1⟩; have hw1 := via (by go_grown : Below w.heap.size w _) hb1; have B1 := bk_keep hb1 (bk_new w (.cells #[.int .i64 2, .int .i64 2, .slice (some ⟨g, 0, none⟩) 5 5, .slice (some ⟨t, 0, none⟩) 2 2] 54 (0, 0)) rfl)))
  have c1 := bk4 B1
  have s1 := bk_size B1
  refine region_in w1 18 (by kernel_rfl) (by kernel_rfl) (Below.refl _ _) ?_
  intro hgc hbx
  simp only [List.take_succ_cons, List.take_zero, List.drop_succ_cons, List.drop_zero]
  repeat (go_big_quiet_step ((go_at_call 32; (first | with_reducible exact Grew.call_same (hU2.out _) | with_reducible exact Grew.call_same (hU10.out _) | with_reducible exact Grew.call_same (hU8.out _) | with_reducible exact Grew.call_same (hU6.out _)))))
  refine wpQuiet_nil ?_
  intro w2 hb2 _ _
  clear hgc hbx c1 s1
  have hw2 := via hw1 hb2
  have B2 := bk_keep hb2 B1
  have B3 := bk_alloc B2 (.cells #[.int .i64 0, .int .i64 0, .int .i64 0, .int .i64 0] 31)
  have c3 := bk4 B3
  have s3 := bk_size B3
  have q4 := bk4 (bk_new w2 (.cells #[.int .i64 0, .int .i64 0, .int .i64 0, .int .i64 0] 31) rfl)
  have hF4 := Lib.hid (first4_any w2.heap.size (w2.alloc (.cells #[.int .i64 0, .int .i64 0, .int .i64 0, .int .i64 0] 31)) q4.1 q4.2.1 q4.2.2.1 q4.2.2.2.1)
  clear q4
  have hw3 := via_alloc hw2 (.cells #[.int .i64 0, .int .i64 0, .int .i64 0, .int .i64 0] 31)
  go_wp2_with (go_at_call 31; refine hF4.out.mono ?_; rintro e w' ⟨rfl, rfl⟩)
  clear c3 s3
  go_loopw [60] (fun j wr => ∃ i : Nat, i ≤ 2 ∧ j = .int .i64 i ∧ Below w.heap.size w wr ∧ wr.heap[w.heap.size]? = some (.cells #[.int .i64 2, .int .i64 2, .slice (some ⟨g, 0, none⟩) 5 5, .slice (some ⟨t, 0, none⟩) 2 2] 54 (0, 0))) (fun j _ => 2 - (intOf j).toNat)
  case atStart => exact ⟨0, by omega, rfl, hw3, B3⟩
  case round =>
    clear B3 hw3 B1 B2 hw2 hw1
    obtain ⟨i, hi, rfl, hbw, B0⟩ := hrel
    have c1 := bk4 B0
    have s1 := bk_size B0
    by_cases hlt : i < 2
    · obtain ⟨r, l, h1, h2, h3, h4⟩ := (hP'.out.below hbw).row i hlt
      have hts := bk_size (hP'.out.below hbw).ts
      have hC2 := Lib.hid fun W (hb : Below wr.heap.size wr W) hB => containsPMark_any (some ⟨r, 0, none⟩) l 5 g t w.heap.size W (by omega) (h2.below hb) h4 hB
      rw [h3] at hC2
      have hiI : (i : Int) < 2 := by omega
      clear h2 h3 h4
      go_wp2_with (first
        | (go_at_call 40; refine (hC2.out _ (Below.refl _ _) B0).mono ?_; rintro e w5 ⟨rfl, hb5⟩; have hw5 := via hbw hb5; have B5 := bk_keep hb5 B0; have c5 := bk4 B5; have B6 := bk_alloc B5 (.cells #[.int .i64 0, .int .i64 0] 31); have hw6 := via_alloc hw5 (.cells #[.int .i64 0, .int .i64 0] 31); have q2 := bk2 (bk_new w5 (.cells #[.int .i64 0, .int .i64 0] 31) rfl); have hF2 := Lib.hid (first2_any w5.heap.size (w5.alloc (.cells #[.int .i64 0, .int .i64 0] 31)) q2.1 q2.2.1); clear q2)
        | (go_at_call 32; (first | refine Calls.mono (by with_reducible exact hU10.out _) ?_ | refine Calls.mono (by with_reducible exact hU6.out _) ?_); rintro e w' ⟨rfl, rfl⟩)
        | (go_at_call 31; refine hF2.out.mono ?_; rintro e w' ⟨rfl, rfl⟩))
      go_roundw
      case rel => exact ⟨i + 1, by omega, by go_num, hw6, B6⟩
      case measure => simp [intOf]; omega
    · have hi2 : i = 2 := by omega
      subst hi2
      go_wp2
      refine bodyPost_ret (v := .tuple #[.int .i64 0, .int .i64 0]) ?_ rfl ⟨rfl, hbw⟩
      simp [results, Tryz.results91, go_sem]
end Go.Proofs

set_option linter.unusedSimpArgs false
set_option linter.unusedVariables false
namespace Go.Proofs
open Go.RowKit

theorem first3_any (b : Nat) (w : World) (h0 : w.cell? ⟨b, 0, none⟩ = some (.int .i64 0)) (h1 : w.cell? ⟨b, 1, none⟩ = some (.int .i64 0)) (h2 : w.cell? ⟨b, 2, none⟩ = some (.int .i64 0)) :
    Calls Tryz.prog 31 #[.slice (some ⟨b, 0, none⟩) 3 3] w fun e w' => e = .returned (.int .i64 0) ∧ w = w' :=
  first_any [0, 0, 0] b w (by simp) (fun j hj => match j, hj with
    | 0, _ => h0
    | 1, _ => h1
    | 2, _ => h2)
set_option maxRecDepth 100000 in
set_option maxHeartbeats 1000000 in
theorem openPanel_ok (g r0 r1 t : Nat) (w : World) (hP : PanW w g r0 r1 t) :
    Calls Tryz.prog 70 #[.agg #[.int .i64 2, .int .i64 2, .slice (some ⟨g, 0, none⟩) 5 5, .slice (some ⟨t, 0, none⟩) 2 2]] w fun e w' => e = .returned (.tuple #[.agg #[.int .i64 2, .int .i64 2, .slice (some ⟨g, 0, none⟩) 5 5, .slice (some ⟨t, 0, none⟩) 2 2], .int .i64 0]) ∧ Below w.heap.size w w' := by
  have hC := Lib.hid fun W (hb : Below w.heap.size w W) => checkPanel_ok g r0 r1 t W (hP.below hb)
  clear hP
  go_enter Tryz.func70, Tryz.ntmps70
  go_wp2_with (go_at_call 91; refine (hC.out _ (by go_grown)).mono ?_; rintro e w1 ⟨rfl, hb1⟩; have hw1 := via (by go_grown : Below w.heap.size w _) hb1; have hsw := hw1.size; have E0 : w1.heap[w.heap.size]? = some (.cells #[.int .i64 2, .int .i64 2, .slice (some ⟨g, 0, none⟩) 5 5, .slice (some ⟨t, 0, none⟩) 2 2] 54 (0, 0)) := bk_keep hb1 (by (repeat (first | assumption | (refine bk_new _ _ ?_; (simp; done)) | refine bk_drew ?_ | refine bk_alloc ?_ _ | refine bk_set ?_ (by simp <;> omega) _))); have E1 : w1.heap[w.heap.size + 1]? = some (.cells #[.int .i64 0, .int .i64 0, .slice none 0 0, .slice none 0 0] 95 (0, 0)) := bk_keep hb1 (by (repeat (first | assumption | (refine bk_new _ _ ?_; (simp; done)) | refine bk_drew ?_ | refine bk_alloc ?_ _ | refine bk_set ?_ (by simp <;> omega) _))); have c0 := bk4 E0; have c1 := bk4 E1; have s1 := bk_size E1)
  have R3 := bk4 (bk_here (bk_here (bk_here (bk_here E1 (.int .i64 2) rfl (o := 0)) (.int .i64 2) rfl (o := 1)) (.slice (some ⟨g, 0, none⟩) 5 5) rfl (o := 2)) (.slice (some ⟨t, 0, none⟩) 2 2) rfl (o := 3))
  refine bodyPost_ret (v := .tuple #[.agg #[.int .i64 2, .int .i64 2, .slice (some ⟨g, 0, none⟩) 5 5, .slice (some ⟨t, 0, none⟩) 2 2], .int .i64 0]) ?_ rfl ⟨rfl, by go_grown⟩
  simp [results, Tryz.results70, go_sem, R3]
set_option maxRecDepth 100000 in
set_option maxHeartbeats 1000000 in
theorem caskErr_ok (g t : Nat) (w : World) :
    Calls Tryz.prog 71 #[.agg #[.int .i64 2, .int .i64 2, .slice (some ⟨g, 0, none⟩) 5 5, .slice (some ⟨t, 0, none⟩) 2 2], .int .i64 1] w fun e w' => e = .returned (.int .i64 0) ∧ Below w.heap.size w w' := by
  have hW := Lib.hid fun W => within_any 1 0 1 W
  rw [show within 1 0 1 = true by decide] at hW
  have hU6 := Lib.hid fun W => unless_any true 6 W
  unfold unl at hU6
  simp only [if_true] at hU6
  go_enter Tryz.func71, Tryz.ntmps71
  go_wp2_with (first
    | (go_at_call 42; refine Calls.mono (by with_reducible exact hW.out _) ?_; rintro e w' ⟨rfl, rfl⟩)
    | (go_at_call 32; refine Calls.mono (by with_reducible exact hU6.out _) ?_; rintro e w' ⟨rfl, rfl⟩))
  go_ret
  exact ⟨rfl, by go_grown⟩
set_option maxRecDepth 100000 in
set_option maxHeartbeats 1000000 in
theorem tasterErr_ok (g t k : Nat) (w : World) (hk : k < 2) :
    Calls Tryz.prog 92 #[.agg #[.int .i64 2, .int .i64 2, .slice (some ⟨g, 0, none⟩) 5 5, .slice (some ⟨t, 0, none⟩) 2 2], .int .i64 k] w fun e w' => e = .returned (.int .i64 0) ∧ Below w.heap.size w w' := by
  have hW := Lib.hid fun W => within_any (k : Int) 0 1 W
  rw [show within (k : Int) 0 1 = true by unfold within; simp; omega] at hW
  have hU6 := Lib.hid fun W => unless_any true 6 W
  unfold unl at hU6
  simp only [if_true] at hU6
  go_enter Tryz.func92, Tryz.ntmps92
  go_wp2_with (first
    | (go_at_call 42; refine Calls.mono (by with_reducible exact hW.out _) ?_; rintro e w' ⟨rfl, rfl⟩)
    | (go_at_call 32; refine Calls.mono (by with_reducible exact hU6.out _) ?_; rintro e w' ⟨rfl, rfl⟩))
  go_ret
  exact ⟨rfl, by go_grown⟩
set_option maxRecDepth 100000 in
set_option maxHeartbeats 2000000 in
theorem tastersErr_ok (g t L : Nat) (w : World) (hL : w.heap[L]? = some (.cells #[.int .i64 0, .int .i64 1] 3 (0, 0))) :
    Calls Tryz.prog 72 #[.agg #[.int .i64 2, .int .i64 2, .slice (some ⟨g, 0, none⟩) 5 5, .slice (some ⟨t, 0, none⟩) 2 2], .slice (some ⟨L, 0, none⟩) 2 2] w fun e w' => e = .returned (.int .i64 0) ∧ Below w.heap.size w w' := by
  have hT := Lib.hid fun k W hk => tasterErr_ok g t k W hk
  have hU9 := Lib.hid fun W => unless_any true 9 W
  unfold unl at hU9
  simp only [if_true] at hU9
  have hLb := Lib.hid hL
  clear hL
  go_enter Tryz.func72, Tryz.ntmps72
  go_wp2_with fail
  have E0 := bk_new w (.cells #[.int .i64 2, .int .i64 2, .slice (some ⟨g, 0, none⟩) 5 5, .slice (some ⟨t, 0, none⟩) 2 2] 95 (0, 0)) rfl
  have hw0 := new_below w (.cells #[.int .i64 2, .int .i64 2, .slice (some ⟨g, 0, none⟩) 5 5, .slice (some ⟨t, 0, none⟩) 2 2] 95 (0, 0))
  go_loopw [10] (fun j wr => ∃ i : Nat, i ≤ 2 ∧ j = .int .i64 i ∧ Below w.heap.size w wr ∧ wr.heap[w.heap.size]? = some (.cells #[.int .i64 2, .int .i64 2, .slice (some ⟨g, 0, none⟩) 5 5, .slice (some ⟨t, 0, none⟩) 2 2] 95 (0, 0))) (fun j _ => 2 - (intOf j).toNat)
  case atStart => exact ⟨0, by omega, rfl, hw0, E0⟩
  case round =>
    clear E0 hw0
    obtain ⟨i, hi, rfl, hbw, B0⟩ := hrel
    have c1 := bk4 B0
    have s1 := bk_size B0
    have L0 := bk_keep hbw hLb.out
    have l0 := bk2 L0
    have s2 := bk_size L0
    by_cases hlt : i < 2
    · have hT2 := Lib.hid fun W => hT.out i W hlt
      have hi01 : i = 0 ∨ i = 1 := by omega
      rcases hi01 with rfl | rfl
      all_goals
        go_wp2_with (first
          | (go_at_call 92; refine (hT2.out _).mono ?_; rintro e w5 ⟨rfl, hb5⟩; have hw5 := via hbw hb5; have B5 := bk_keep hb5 B0; have B6 := bk_alloc B5 (.cells #[.int .i64 0, .int .i64 0] 31); have hw6 := via_alloc hw5 (.cells #[.int .i64 0, .int .i64 0] 31); have q2 := bk2 (bk_new w5 (.cells #[.int .i64 0, .int .i64 0] 31) rfl); have hF2 := Lib.hid (first2_any w5.heap.size (w5.alloc (.cells #[.int .i64 0, .int .i64 0] 31)) q2.1 q2.2.1); clear q2; have l5 := bk2 (bk_keep hb5 L0); have s5 := bk_size (bk_keep hb5 L0))
          | (go_at_call 32; refine Calls.mono (by with_reducible exact hU9.out _) ?_; rintro e w' ⟨rfl, rfl⟩)
          | (go_at_call 31; refine hF2.out.mono ?_; rintro e w' ⟨rfl, rfl⟩))
        go_roundw
        case rel => first | exact ⟨1, by decide, rfl, hw6, B6⟩ | exact ⟨2, by decide, rfl, hw6, B6⟩
        case measure => simp [intOf]
    · have hi2 : i = 2 := by omega
      subst hi2
      go_wp2
      go_ret
      exact ⟨rfl, hbw⟩
set_option maxRecDepth 100000 in
set_option maxHeartbeats 2000000 in
theorem openTasters_ok (g r0 r1 t L : Nat) (w : World) (hP : PanW w g r0 r1 t) (hL : w.heap[L]? = some (.cells #[.int .i64 0, .int .i64 1] 3 (0, 0))) :
    Calls Tryz.prog 48 #[.agg #[.int .i64 2, .int .i64 2, .slice (some ⟨g, 0, none⟩) 5 5, .slice (some ⟨t, 0, none⟩) 2 2], .int .i64 1, .slice (some ⟨L, 0, none⟩) 2 2] w fun e w' => e = .returned (.tuple #[.agg #[.int .i64 2, .int .i64 2, .slice (some ⟨g, 0, none⟩) 5 5, .slice (some ⟨t, 0, none⟩) 2 2], .int .i64 0]) ∧ Below w.heap.size w w' := by
  have hO := Lib.hid fun W (hb : Below w.heap.size w W) => openPanel_ok g r0 r1 t W (hP.below hb)
  have hCk := Lib.hid fun W => caskErr_ok g t W
  have hT := Lib.hid fun W (hb : Below w.heap.size w W) => tastersErr_ok g t L W (bk_keep hb hL)
  clear hP hL
  go_enter Tryz.func48, Tryz.ntmps48
  go_wp2_with (go_at_call 70; refine (hO.out _ (by go_grown)).mono ?_; rintro e w1 ⟨rfl, hb1⟩; have hbw := via (by go_grown : Below w.heap.size w _) hb1; have hsw := hbw.size; have E1 : w1.heap[w.heap.size + 1]? = some (.cells #[.int .i64 0, .int .i64 0, .slice none 0 0, .slice none 0 0] 95 (0, 0)) := bk_keep hb1 (by (repeat (first | assumption | (refine bk_new _ _ ?_; (simp; done)) | refine bk_drew ?_ | refine bk_alloc ?_ _ | refine bk_set ?_ (by simp <;> omega) _))))
  refine wp_world ?_
  intro W hW_W
  have hb_W : Below w.heap.size w W := by rw [hW_W]; go_grown
  have F2 : W.heap[w.heap.size + 1]? = some (.cells #[.int .i64 0, .int .i64 0, .slice none 0 0, .slice none 0 0] 95 (0, 0)) := by rw [hW_W]; (repeat (first | assumption | (refine bk_new _ _ ?_; (simp; done)) | refine bk_drew ?_ | refine bk_alloc ?_ _ | refine bk_set ?_ (by simp <;> omega) _))
  have F6 : W.heap[w1.heap.size]? = some (.cells #[.int .i64 2, .int .i64 2, .slice (some ⟨g, 0, none⟩) 5 5, .slice (some ⟨t, 0, none⟩) 2 2] 95 (0, 0)) := by rw [hW_W]; (repeat (first | assumption | (refine bk_new _ _ ?_; (simp; done)) | refine bk_drew ?_ | refine bk_alloc ?_ _ | refine bk_set ?_ (by simp <;> omega) _))
  have hWs : W.heap.size = w1.heap.size + 1 := by rw [hW_W]; simp
  have hE := bk_size E1
  obtain ⟨X, hX⟩ : ∃ X, w1.heap.size = X := ⟨_, rfl⟩
  rw [hX] at F6 hWs hE ⊢
  clear hW_W E1 hX
  refine wp_region_any (by kernel_rfl) ?_
  apply any_mck w (fun x => Below w.heap.size w x ∧ x.heap[X]? = some (.cells #[.int .i64 2, .int .i64 2, .slice (some ⟨g, 0, none⟩) 5 5, .slice (some ⟨t, 0, none⟩) 2 2] 95 (0, 0))) 8 9 10 3 (.int .i64 0) (.cells #[.int .i64 0, .int .i64 0, .int .i64 0] 31 (0, 0)) (w.heap.size + 1) (.cells #[.int .i64 0, .int .i64 0, .slice none 0 0, .slice none 0 0] 95 (0, 0)) (.cells #[.int .i64 2, .int .i64 2, .slice (some ⟨g, 0, none⟩) 5 5, .slice (some ⟨t, 0, none⟩) 2 2] 95 (0, 0))
  case hB => kernel_rfl
  case hB' => intro g; kernel_rfl
  case hS => kernel_rfl
  case hN => kernel_rfl
  case hne => decide
  case hkd => intro o ho; simp at ho; subst ho; rfl
  case hd => kernel_rfl
  case hC0 => exact ⟨hb_W, F6⟩
  case hCs => exact fun x x' ⟨h1, h4⟩ hb => ⟨via h1 hb, bk_keep hb h4⟩
  case hCw => exact fun x h => h.1
  case hCk => exact fun x x' ⟨h1, h4⟩ h => ⟨h1.trans (h.below _ (by omega)), h.keep (by omega) h4⟩
  case hblk => exact F2
  case hmk => exact fun x ⟨_, h⟩ => by have := bk_size h; omega
  case hb0 => omega
  case hCb => exact fun x h => by have := bk_size h.2; omega
  case hq =>
    rintro gg x ⟨h1, h4⟩ hgc hbx hbX
    have u2 := bk4 h4
    have hx2 := bk_size h4
    simp only [mixL, mkCK, yieldsC, List.contains_cons, List.contains_nil, Nat.reduceAdd, Nat.reduceBEq, Nat.reduceEqDiff, Nat.zero_add, Bool.or_false, Bool.or_true, Bool.false_or, Bool.true_or, Bool.false_eq_true, if_true, if_false, Bool.or_self]
    repeat (go_big_quiet_step (first
      | (go_at_call 71; exact Grew.call (hCk.out _))
      | (go_at_call 72; exact Grew.call (hT.out _ (hbx.out _)))))
    exact wpQuiet_nil rfl
  case hind => intro j hj; simp only [List.mem_cons, List.not_mem_nil, or_false] at hj; rcases hj with rfl | rfl | rfl <;> (intro g h; kernel_rfl)
  case hm1 =>
    intro o ho gg x
    simp only [List.getElem?_cons_succ, List.getElem?_cons_zero, Option.some.injEq] at ho
    subst ho
    kernel_rfl
  case hc1 =>
    intro o ho gg x hC hz
    simp only [List.getElem?_cons_succ, List.getElem?_cons_zero, Option.some.injEq] at ho
    subst ho
    refine ⟨31, #[.slice (some ⟨(gg 8).b, 0, none⟩) 3 3], by kernel_rfl, (first3_any _ _ (bk3 hz).1 (bk3 hz).2.1 (bk3 hz).2.2.1).mono ?_⟩
    rintro e x' ⟨rfl, rfl⟩
    exact ⟨rfl, Below.refl _ _⟩
  case hk1 =>
    intro o ho gg x hC hz
    simp only [List.getElem?_cons_succ, List.getElem?_cons_zero, Option.some.injEq] at ho
    subst ho
    exact ⟨_, run_store4 rfl rfl rfl rfl rfl (by kernel_rfl) (by kernel_rfl) (by kernel_rfl) hz, ((((OnlyB.refl _ _).set _ _).set _ _).set _ _).set _ _, bk_here (bk_here (bk_here (bk_here hz _ rfl) _ rfl) _ rfl) _ rfl⟩
  case hend =>
    rintro gg x ⟨h1, h4⟩ hz
    have R3 := bk4 hz
    go_wp2_with fail
    refine bodyPost_ret (v := .tuple #[.agg #[.int .i64 2, .int .i64 2, .slice (some ⟨g, 0, none⟩) 5 5, .slice (some ⟨t, 0, none⟩) 2 2], .int .i64 0]) ?_ rfl ⟨rfl, h1⟩
    simp [results, Tryz.results48, go_sem, R3]
end Go.Proofs
