import Derived.Test.YtbikblifpfokaaaGreatDoorMg4
import Derived.Test.YtbikblifpfokaaaGreatDoorMg1
import Derived.Test.YtbikblifpfokaaaGreatDoorMg19
set_option linter.unusedSimpArgs false
set_option linter.unusedVariables false
namespace Go.Proofs
open Go.RowKit

set_option maxRecDepth 100000 in
set_option maxHeartbeats 1000000 in
theorem refName_any (s : ByteArray) (w : World) (hs : s.size ≤ 9223372036854775807) :
    Calls Tryz.prog 50 #[.string s] w fun e w' => e = .returned (.bool (nameB s.data.toList)) ∧ w = w' := by
  have hlen : Hid (s.data.toList.length = s.size) := by simp [Hid]
  by_cases h1 : s.size < 1
  · have i1 : (s.size : Int) < 1 := by omega
    have hv : nameB s.data.toList = false := by unfold nameB; rw [hlen.out]; simp; omega
    rw [hv]
    clear hv hlen
    go_enter Tryz.func50, Tryz.ntmps50
    go_wp2
    go_ret
    exact ⟨rfl, rfl⟩
  · have i1 : ¬ (s.size : Int) < 1 := by omega
    by_cases h2 : 12 < s.size
    · have i2 : 12 < (s.size : Int) := by omega
      have hv : nameB s.data.toList = false := by unfold nameB; rw [hlen.out]; simp; omega
      rw [hv]
      clear hv hlen
      go_enter Tryz.func50, Tryz.ntmps50
      go_wp2
      go_ret
      exact ⟨rfl, rfl⟩
    · have i2 : ¬ 12 < (s.size : Int) := by omega
      go_enter Tryz.func50, Tryz.ntmps50
      go_wp2
      go_loop [3] (fun i => ∃ k : Nat, k ≤ s.size ∧ i = .int .i64 k ∧ Hid (∀ j, j < k → charOk j ((s.data.toList.getD j 0).toNat : Int) = true)) (fun i => s.size - (intOf i).toNat)
      case atStart => exact ⟨0, Nat.zero_le _, rfl, fun j hj => by omega⟩
      case round =>
        obtain ⟨k, hk, rfl, hok⟩ := hrel
        by_cases hlt : k < s.size
        · obtain ⟨c, hc⟩ : ∃ c : UInt8, s[k]'hlt = c := ⟨_, rfl⟩
          have hc' : Hid (s.data.toList.getD k 0 = c) := by
            unfold Hid
            rw [← hc, List.getD_eq_getElem?_getD, List.getElem?_eq_getElem (by rw [hlen.out]; exact hlt)]
            simp; rfl
          have hb0 : (0 : Int) ≤ (c.toNat : Int) := by omega
          by_cases h0 : k = 0
          · have hk0 : ((k : Int) == 0) = true := by simp [h0]
            have h0' := Lib.hid h0
            clear h0
            go_wp2
            all_goals first
              | (exfalso; have := h0'.out; simp at *; omega)
              | (go_round
                 case rel => exact ⟨k + 1, by omega, by go_num, chars_more hok hc' (ok_is _ _ (by have := h0'.out; simp at *; omega))⟩
                 case measure => simp [intOf]; omega)
              | (go_ret; exact ⟨ret_bool (name_not (k := k) hlen hlt hc' (ok_not _ _ (by have := h0'.out; simp at *; omega))).symm, rfl⟩)
          · have hk0 : ((k : Int) == 0) = false := by simp [h0]
            go_wp2
            all_goals first
              | (exfalso; simp at *; omega)
              | (go_round
                 case rel => exact ⟨k + 1, by omega, by go_num, chars_more hok hc' (ok_is _ _ (by simp at *; omega))⟩
                 case measure => simp [intOf]; omega)
              | (go_ret; exact ⟨ret_bool (name_not (k := k) hlen hlt hc' (ok_not _ _ (by simp at *; omega))).symm, rfl⟩)
        · have hkk : k = s.size := by omega
          subst hkk
          have hcs : charsOk s.data.toList = true := charsOk_of _ (fun j hj => hok.out j (by rw [hlen.out] at hj; exact hj))
          have hv : nameB s.data.toList = true := by unfold nameB; rw [hcs, hlen.out]; simp; omega
          go_wp2
          go_ret
          exact ⟨rfl, rfl⟩

def rangeE (lo hi m : Int) : Int := firstE [unl (within lo 0 m && within hi 0 m) 2, unl (decide (lo ≤ hi)) 9]
end Go.Proofs

set_option linter.unusedSimpArgs false
set_option linter.unusedVariables false
namespace Go.Proofs
open Go.RowKit

/-- What the reference's MarksErr says. -/
def MarksSaid (n : Nat) (l : List Int) (e : Ending) : Prop := ∃ d : Int, e = .returned (.int .i64 d) ∧ (d = 0 → l.length ≤ 40 ∧ ∀ x ∈ l, 0 ≤ x ∧ x ≤ (n : Int) - 1)
set_option maxRecDepth 100000 in
set_option maxHeartbeats 2000000 in
theorem marksErr_any (mA cA : Option Addr) (m mc cn cc : Nat) (bg : Int) (B : Option Addr) (l : List Int) (cl : Nat) (w : World) (hm : m ≤ 1000) (hl : l.length ≤ 1000) (hat : At 1 Ic w B l) :
    Calls Tryz.prog 12 #[.agg #[.slice mA m mc, .int .i64 bg, .slice cA cn cc], .slice B l.length cl] w fun e w' => MarksSaid m l e ∧ Below w.heap.size w w' := by
  have hat' := Lib.hid hat
  obtain ⟨n, hn⟩ : ∃ n, l.length = n := ⟨_, rfl⟩
  have hn' := Lib.hid hn
  rw [hn] at hl ⊢
  clear hn hat
  by_cases h40 : 40 < (n : Int)
  · go_enter Tryz.func12, Tryz.ntmps12
    go_wp2
    go_ret
    exact ⟨⟨8, rfl, fun h => by omega⟩, by go_grown⟩
  · have hmw : IntKind.i64.wrap ((m : Int) - 1) = (m : Int) - 1 := IntWalk.i64_in _ (by omega)
    go_enter Tryz.func12, Tryz.ntmps12
    go_wp2
    go_loopw [5] (fun i wr => ∃ k : Nat, k ≤ n ∧ i = .int .i64 k ∧ Hid (∀ x ∈ l.take k, 0 ≤ x ∧ x ≤ (m : Int) - 1) ∧ Below w.heap.size w wr ∧ wr.heap[w.heap.size]? = some (.cells #[.slice mA m mc, .int .i64 bg, .slice cA cn cc] 25 (0, 0))) (fun i _ => n - (intOf i).toNat)
    case atStart => exact ⟨0, Nat.zero_le _, rfl, by unfold Hid; simp, by go_grown, bk_new _ _ rfl⟩
    case round =>
      obtain ⟨k, hk, rfl, hall, hbw, D0⟩ := hrel
      have C0 := bk3 D0
      by_cases hlt : k < n
      · obtain ⟨x, hx⟩ : ∃ x, l[k]? = some x := ⟨_, List.getElem?_eq_getElem (by rw [hn'.out]; exact hlt)⟩
        obtain ⟨b, o, rfl, hbl, hc⟩ := (hat'.out.below hbw) k x hx
        have c0 := hc 0 _ rfl
        simp only [Nat.add_zero, Nat.mul_one] at c0
        have hkI : (k : Int) < (n : Int) := by omega
        have hx' := Lib.hid hx
        clear hc hx
        have hW := Lib.hid fun W => refWithin_any x 0 ((m : Int) - 1) W
        obtain ⟨q, hq⟩ : ∃ q, within x 0 ((m : Int) - 1) = q := ⟨_, rfl⟩
        rw [hq] at hW
        have hq' := Lib.hid hq
        clear hq
        go_wp2
        refine region_all wr (by kernel_rfl) (by kernel_rfl) (by go_grown) ?_
        intro hgc hbx
        repeat (go_big_quiet_step ((go_at_call 37; exact Grew.call_same (hW.out _))))
        refine wpQuiet_nil ?_
        intro w3 hb3 hbw3 hsz3
        clear hgc hbx
        have hbw4 := via hbw hb3
        have D3 := bk_keep hb3 D0
        cases q with
        | false =>
          go_wp2
          go_ret
          exact ⟨⟨6, rfl, fun h => by omega⟩, hbw4⟩
        | true =>
          have hnx : Hid (∀ y ∈ l.take (k + 1), 0 ≤ y ∧ y ≤ (m : Int) - 1) := by
            intro y hy
            rw [List.take_add_one, hx'.out] at hy
            rcases List.mem_append.1 hy with h | h
            · exact hall.out y h
            · simp at h
              subst h
              exact within_true hq'.out
          go_wp2
          go_roundw
          case rel => exact ⟨k + 1, by omega, by go_num, hnx, hbw4, D3⟩
          case measure => simp [intOf]; omega
      · have hkI : ¬ (k : Int) < (n : Int) := by omega
        have hv : Hid (l.length ≤ 40 ∧ ∀ x ∈ l, 0 ≤ x ∧ x ≤ (m : Int) - 1) := by
          refine ⟨by rw [hn'.out]; omega, ?_⟩
          have := hall.out
          rwa [List.take_of_length_le (by rw [hn'.out]; omega)] at this
        go_wp2
        go_ret
        exact ⟨⟨0, rfl, fun _ => hv.out⟩, hbw⟩
end Go.Proofs

set_option linter.unusedSimpArgs false
set_option linter.unusedVariables false
namespace Go.Proofs
open Go.RowKit

/-- What is right of a class, given the ones ahead. -/
structure OkC (m : Nat) (cl : List Cl) (i : Nat) (x : Cl) : Prop where
  nm : nameB x.nm.data.toList = true
  new : ∀ k y, k < i → cl[k]? = some y → y.nm.toList ≠ x.nm.toList
  sh : x.nx.length = m ∧ x.rs.length = m
  nx : ∀ y ∈ x.nx, 0 ≤ y ∧ y ≤ (cl.length : Int) - 1
  rn : ∀ s ∈ x.rs, nameB s.data.toList = true
def ClsSaid (m : Nat) (cl : List Cl) (i : Nat) (x : Cl) (e : Ending) : Prop := ∃ d : Int, e = .returned (.int .i64 d) ∧ (d = 0 → OkC m cl i x)
set_option maxRecDepth 100000 in
set_option maxHeartbeats 4000000 in
theorem classErr_any (mA cA : Option Addr) (mk : List ByteArray) (cl : List Cl) (mc cc : Nat) (bg : Int) (i : Nat) (x : Cl) (w : World) (hm : mk.length ≤ 1000) (hc8 : cl.length ≤ 1000) (hat : BkAt w mA mk cA cl) (hx : cl[i]? = some x)
    (hs : ∀ y ∈ cl, y.nm.size ≤ 9223372036854775807 ∧ y.nx.length ≤ 1000 ∧ y.rs.length ≤ 1000 ∧ ∀ s ∈ y.rs, s.size ≤ 9223372036854775807) :
    Calls Tryz.prog 52 #[.agg #[.slice mA mk.length mc, .int .i64 bg, .slice cA cl.length cc], .int .i64 i] w fun e w' => ClsSaid mk.length cl i x e ∧ Below w.heap.size w w' := by
  have hxm := List.mem_of_getElem? hx
  have hi : i < cl.length := (List.getElem?_eq_some_iff.1 hx).1
  obtain ⟨hs1, hs2, hs3, hs4⟩ := hs x hxm
  have hNm := Lib.hid fun W => refName_any x.nm W hs1
  have hRn := Lib.hid fun s (h : s ∈ x.rs) W => refName_any s W (hs4 s h)
  have hcl := Lib.hid hat.cls
  have hnx := Lib.hid (hat.nxs x hxm)
  have hrs := Lib.hid (hat.rss x hxm)
  obtain ⟨b, o, hA, hb, hc⟩ := hat.cls i x hx
  subst hA
  have hx' := Lib.hid hx
  obtain ⟨m, hm0⟩ : ∃ m, mk.length = m := ⟨_, rfl⟩
  obtain ⟨n, hn0⟩ : ∃ n, cl.length = n := ⟨_, rfl⟩
  have hn' := Lib.hid hn0
  obtain ⟨p, hp0⟩ : ∃ p, x.nx.length = p := ⟨_, rfl⟩
  have hp' := Lib.hid hp0
  obtain ⟨r, hr0⟩ : ∃ p, x.rs.length = p := ⟨_, rfl⟩
  have hr' := Lib.hid hr0
  rw [hm0] at hm ⊢
  rw [hn0] at hi hc8 ⊢
  rw [hp0] at hs2
  rw [hr0] at hs3
  obtain ⟨nm, nA, nx, nc, rA, rs, rc⟩ := x
  dsimp only at hp0 hr0 hNm hRn hnx hrs
  have c0 := hc 0 _ rfl
  have c1 := hc 1 _ rfl
  have c2 := hc 2 _ rfl
  dsimp only at c0 c1 c2
  rw [hp0] at c1
  rw [hr0] at c2
  simp only [Nat.add_zero] at c0
  have hiI : (i : Int) < (n : Int) := by omega
  have hnw : IntKind.i64.wrap ((n : Int) - 1) = (n : Int) - 1 := IntWalk.i64_in _ (by omega)
  clear hat hx hc hm0 hn0 hp0 hr0 hs hs1 hs4 hxm
  obtain ⟨q, hq⟩ : ∃ q, nameB nm.data.toList = q := ⟨_, rfl⟩
  rw [hq] at hNm
  have hq' := Lib.hid hq
  clear hq
  cases q with
  | false =>
    go_enter Tryz.func52, Tryz.ntmps52
    go_wp2_with (first | (go_at_call 50; refine (hNm.out _).mono ?_; rintro e w' ⟨rfl, rfl⟩))
    go_ret
    exact ⟨⟨4, rfl, fun h => by omega⟩, by go_grown⟩
  | true =>
  go_enter Tryz.func52, Tryz.ntmps52
  go_wp2_with (first | (go_at_call 50; refine (hNm.out _).mono ?_; rintro e w' ⟨rfl, rfl⟩))
  refine wp_world ?_
  intro W hW_W
  have hb_W : Below w.heap.size w W := by rw [hW_W]; go_grown
  have D0 : W.heap[w.heap.size]? = some (.cells #[.slice mA m mc, .int .i64 bg, .slice (some ⟨b, o, none⟩) n cc] 25 (0, 0)) := by
    rw [hW_W]
    refine bk_keep (w1 := _) (W := w.alloc _) (by go_grown) (bk_new _ _ rfl)
  have D1 : W.heap[w.heap.size + 1]? = some (.cells #[.string nm, .slice nA p nc, .slice rA r rc] 57 (0, 0)) := by
    rw [hW_W]
    exact bk_new _ _ (by simp)
  clear hW_W
  go_loopw [6] (fun j wr => ∃ k : Nat, k ≤ i ∧ j = .int .i64 k ∧ Hid (∀ j y, j < k → cl[j]? = some y → y.nm.toList ≠ nm.toList) ∧ Below w.heap.size w wr ∧ wr.heap[w.heap.size]? = some (.cells #[.slice mA m mc, .int .i64 bg, .slice (some ⟨b, o, none⟩) n cc] 25 (0, 0)) ∧ wr.heap[w.heap.size + 1]? = some (.cells #[.string nm, .slice nA p nc, .slice rA r rc] 57 (0, 0))) (fun j _ => i - (intOf j).toNat)
  case atStart => exact ⟨0, Nat.zero_le _, rfl, fun j y hj => by omega, hb_W, D0, D1⟩
  case round =>
    clear D0 D1
    obtain ⟨k, hk, rfl, hnew, hbw, D0, D1⟩ := hrel
    have C0 := bk3 D0
    have C1 := bk3 D1
    by_cases hlt : k < i
    · obtain ⟨y, hy⟩ : ∃ y, cl[k]? = some y := ⟨_, List.getElem?_eq_getElem (by rw [hn'.out]; omega)⟩
      obtain ⟨b', o', hA, hb', hcy⟩ := (hcl.out.below hbw) k y hy
      simp only [Option.some.injEq, Addr.mk.injEq, and_true] at hA
      obtain ⟨rfl, rfl⟩ := hA
      have y0 := hcy 0 _ rfl
      simp only [Nat.add_zero] at y0
      have hkI : (k : Int) < (i : Int) := by omega
      have hkN : (k : Int) < (n : Int) := by omega
      have hy' := Lib.hid hy
      clear hcy hy
      obtain ⟨yn, yA, yx, yc, zA, zs, zc⟩ := y
      dsimp only at y0
      go_wp2
      refine region_all wr (by kernel_rfl) (by kernel_rfl) (by go_grown) ?_
      intro hgc hbx
      repeat (go_big_quiet_step (fail))
      refine wpQuiet_nil ?_
      intro w3 hb3 hbw3 hsz3
      clear hgc hbx
      replace hbw := via hbw hb3
      replace D0 := bk_keep hb3 D0
      replace D1 := bk_keep hb3 D1
      cases hq : (yn.toList == nm.toList) with
      | true =>
        go_wp2
        go_ret
        exact ⟨⟨5, rfl, fun h => by omega⟩, hbw⟩
      | false =>
        have hnx2 : Hid (∀ j y, j < k + 1 → cl[j]? = some y → y.nm.toList ≠ nm.toList) := by
          intro j y hj hy
          by_cases hjk : j = k
          · subst hjk
            rw [hy'.out] at hy
            injection hy with hy
            subst hy
            exact beq_eq_false_iff_ne.1 hq
          · exact hnew.out j y (by omega) hy
        go_wp2
        go_roundw
        case rel => exact ⟨k + 1, by omega, by go_num, hnx2, hbw, D0, D1⟩
        case measure => simp [intOf]; omega
    · have hki : k = i := by omega
      have hkI : ¬ (k : Int) < (i : Int) := by omega
      have hnew2 : Hid (∀ j y, j < i → cl[j]? = some y → y.nm.toList ≠ nm.toList) := by rw [← hki]; exact hnew
      clear hnew
      by_cases e1 : p = m
      case neg =>
        have z1 : ((p : Int) != (m : Int)) = true := by rw [bne_iff_ne]; omega
        clear hki
        go_wp2
        go_ret
        exact ⟨⟨10, rfl, fun h => by omega⟩, hbw⟩
      by_cases e2 : r = m
      case neg =>
        have z1 : ((p : Int) != (m : Int)) = false := by rw [bne_eq_false_iff_eq]; omega
        have z2 : ((r : Int) != (m : Int)) = true := by rw [bne_iff_ne]; omega
        clear hki e1
        go_wp2
        go_ret
        exact ⟨⟨10, rfl, fun h => by omega⟩, hbw⟩
      have z1 : ((p : Int) != (m : Int)) = false := by rw [bne_eq_false_iff_eq]; omega
      have z2 : ((r : Int) != (m : Int)) = false := by rw [bne_eq_false_iff_eq]; omega
      have e1' := Lib.hid e1
      have e2' := Lib.hid e2
      clear hki e1 e2
      go_wp2
      go_loopw [7] (fun j wr => ∃ k : Nat, k ≤ p ∧ j = .int .i64 k ∧ Hid (∀ y ∈ nx.take k, 0 ≤ y ∧ y ≤ (n : Int) - 1) ∧ Below w.heap.size w wr ∧ wr.heap[w.heap.size]? = some (.cells #[.slice mA m mc, .int .i64 bg, .slice (some ⟨b, o, none⟩) n cc] 25 (0, 0)) ∧ wr.heap[w.heap.size + 1]? = some (.cells #[.string nm, .slice nA p nc, .slice rA r rc] 57 (0, 0))) (fun j _ => p - (intOf j).toNat)
      case atStart => exact ⟨0, Nat.zero_le _, rfl, by unfold Hid; simp, hbw, D0, D1⟩
      case round =>
        clear D0 D1 hbw C0 C1 hkI hlt hk
        obtain ⟨k, hk, rfl, hin, hbw, D0, D1⟩ := hrel
        have C0 := bk3 D0
        have C1 := bk3 D1
        by_cases hlt : k < p
        · obtain ⟨y, hy⟩ : ∃ y, nx[k]? = some y := ⟨_, List.getElem?_eq_getElem (by have : nx.length = p := hp'.out; omega)⟩
          obtain ⟨b2, o2, rfl, hb2, hcy⟩ := (hnx.out.below hbw) k y hy
          have y0 := hcy 0 _ rfl
          simp only [Nat.add_zero, Nat.mul_one] at y0
          have hkI : (k : Int) < (p : Int) := by omega
          have hy' := Lib.hid hy
          clear hcy hy
          have hWi := Lib.hid fun W => refWithin_any y 0 ((n : Int) - 1) W
          obtain ⟨q, hq⟩ : ∃ q, within y 0 ((n : Int) - 1) = q := ⟨_, rfl⟩
          rw [hq] at hWi
          have hq' := Lib.hid hq
          clear hq
          go_wp2
          refine region_all wr (by kernel_rfl) (by kernel_rfl) (by go_grown) ?_
          intro hgc hbx
          repeat (go_big_quiet_step ((go_at_call 37; exact Grew.call_same (hWi.out _))))
          refine wpQuiet_nil ?_
          intro w3 hb3 hbw3 hsz3
          clear hgc hbx
          replace hbw := via hbw hb3
          replace D0 := bk_keep hb3 D0
          replace D1 := bk_keep hb3 D1
          cases q with
          | false =>
            go_wp2
            go_ret
            exact ⟨⟨6, rfl, fun h => by omega⟩, hbw⟩
          | true =>
            have hnx2 : Hid (∀ y ∈ nx.take (k + 1), 0 ≤ y ∧ y ≤ (n : Int) - 1) := by
              intro z hz
              rw [List.take_add_one, hy'.out] at hz
              rcases List.mem_append.1 hz with h | h
              · exact hin.out z h
              · simp at h
                subst h
                exact within_true hq'.out
            go_wp2
            go_roundw
            case rel => exact ⟨k + 1, by omega, by go_num, hnx2, hbw, D0, D1⟩
            case measure => simp [intOf]; omega
        · have hkI : ¬ (k : Int) < (p : Int) := by omega
          have hin2 : Hid (∀ y ∈ nx, 0 ≤ y ∧ y ≤ (n : Int) - 1) := by
            have := hin.out
            rwa [List.take_of_length_le (by have : nx.length = p := hp'.out; omega)] at this
          clear hin
          go_wp2
          go_loopw [8] (fun j wr => ∃ k : Nat, k ≤ r ∧ j = .int .i64 k ∧ Hid (∀ s ∈ rs.take k, nameB s.data.toList = true) ∧ Below w.heap.size w wr ∧ wr.heap[w.heap.size]? = some (.cells #[.slice mA m mc, .int .i64 bg, .slice (some ⟨b, o, none⟩) n cc] 25 (0, 0)) ∧ wr.heap[w.heap.size + 1]? = some (.cells #[.string nm, .slice nA p nc, .slice rA r rc] 57 (0, 0))) (fun j _ => r - (intOf j).toNat)
          case atStart => exact ⟨0, Nat.zero_le _, rfl, by unfold Hid; simp, hbw, D0, D1⟩
          case round =>
            clear D0 D1 hbw C0 C1 hkI hlt hk
            obtain ⟨k, hk, rfl, hnn, hbw, D0, D1⟩ := hrel
            have C0 := bk3 D0
            have C1 := bk3 D1
            by_cases hlt : k < r
            · obtain ⟨y, hy⟩ : ∃ y, rs[k]? = some y := ⟨_, List.getElem?_eq_getElem (by have : rs.length = r := hr'.out; omega)⟩
              obtain ⟨b2, o2, rfl, hb2, hcy⟩ := (hrs.out.below hbw) k y hy
              have y0 := hcy 0 _ rfl
              simp only [Nat.add_zero, Nat.mul_one] at y0
              have hkI : (k : Int) < (r : Int) := by omega
              have hy' := Lib.hid hy
              have hNy := Lib.hid fun W => hRn.out y (List.mem_of_getElem? hy) W
              clear hcy hy
              obtain ⟨q, hq⟩ : ∃ q, nameB y.data.toList = q := ⟨_, rfl⟩
              rw [hq] at hNy
              have hq' := Lib.hid hq
              clear hq
              cases q with
              | false =>
                go_wp2_with (first | (go_at_call 50; refine (hNy.out _).mono ?_; rintro e w' ⟨rfl, rfl⟩))
                go_ret
                exact ⟨⟨4, rfl, fun h => by omega⟩, hbw⟩
              | true =>
                have hnx2 : Hid (∀ s ∈ rs.take (k + 1), nameB s.data.toList = true) := by
                  intro z hz
                  rw [List.take_add_one, hy'.out] at hz
                  rcases List.mem_append.1 hz with h | h
                  · exact hnn.out z h
                  · simp at h
                    subst h
                    exact hq'.out
                go_wp2_with (first | (go_at_call 50; refine (hNy.out _).mono ?_; rintro e w' ⟨rfl, rfl⟩))
                go_roundw
                case rel => exact ⟨k + 1, by omega, by go_num, hnx2, hbw, D0, D1⟩
                case measure => simp [intOf]; omega
            · have hkI : ¬ (k : Int) < (r : Int) := by omega
              have hnn2 : Hid (∀ s ∈ rs, nameB s.data.toList = true) := by
                have := hnn.out
                rwa [List.take_of_length_le (by have : rs.length = r := hr'.out; omega)] at this
              go_wp2
              go_ret
              exact ⟨⟨0, rfl, fun _ => ⟨hq'.out, hnew2.out, ⟨hp'.out.trans e1'.out, hr'.out.trans e2'.out⟩, by rw [hn'.out]; exact hin2.out, hnn2.out⟩⟩, hbw⟩
end Go.Proofs
