import Derived.Test.YtjfdjjekonkgjaaF
import Derived.Test.YtjfdjjekonkgjaaBk2
import Derived.Test.YtjfdjjekonkgjaaDm
import Derived.Test.YtjfdjjekonkgjaaPl
import Derived.Test.YtjfdjjekonkgjaaV
import Derived.Test.YtjfdjjekonkgjaaMx
import Derived.Maps.AppendAt
import Derived.Test.YtjfdjjekonkgjaaDd
import Derived.Test.YtjfdjjekonkgjaaCg
import Derived.Test.YtjfdjjekonkgjaaNa
set_option linter.unusedSimpArgs false
set_option linter.unusedVariables false
namespace Go.Proofs
open Go.RowKit

def Txt.cs (s : ByteArray) : List Value := [.string s]
set_option maxRecDepth 100000 in
set_option maxHeartbeats 1000000 in
/-- Whether a list of texts holds a text. -/
theorem hasText_any (A : Option Addr) (l : List ByteArray) (c : Nat) (s : ByteArray) (w : World) (hl : l.length ≤ 9223372036854775807) (hat : At 1 Txt.cs w A l) :
    Calls Try.prog 112 #[.slice A l.length c, .string s] w fun e w' => e = .returned (.bool (l.any fun x => eqS x s)) ∧ Below w.heap.size w w' := by
  obtain ⟨n, hn⟩ : ∃ n, l.length = n := ⟨_, rfl⟩
  have hn' := Lib.hid hn
  rw [hn] at hl ⊢
  clear hn
  obtain ⟨R, hR⟩ : ∃ R, (l.any fun x => eqS x s) = R := ⟨_, rfl⟩
  have hR' := Lib.hid hR
  rw [hR]
  clear hR
  go_enter Try.func112, Try.ntmps112
  go_wp2
  go_loopw [5] (fun i wr => ∃ k : Nat, k ≤ n ∧ i = .int .i64 k ∧ Hid ((l.take k).any (fun x => eqS x s) = false) ∧ Below w.heap.size w wr) (fun i _ => n - (intOf i).toNat)
  case atStart => exact ⟨0, Nat.zero_le _, rfl, rfl, Below.refl _ _⟩
  case round =>
    obtain ⟨k, hk, rfl, hall, hbw⟩ := hrel
    by_cases hlt : k < n
    · obtain ⟨x, hx⟩ : ∃ x, l[k]? = some x := ⟨_, List.getElem?_eq_getElem (by rw [hn'.out]; exact hlt)⟩
      obtain ⟨b, o, rfl, hbl, hc⟩ := (hat.below hbw) k x hx
      have c0 := hc 0 _ rfl
      simp only [Nat.add_zero, Nat.mul_one] at c0
      have hx' := Lib.hid hx
      clear hc hx hat
      cases hxs : (x.toList == s.toList)
      case true =>
        have hT : R = true := by rw [← hR'.out, List.any_eq_true]; exact ⟨x, List.mem_of_getElem? hx'.out, hxs⟩
        subst hT
        go_wp2
        go_ret
        exact ⟨rfl, hbw⟩
      case false =>
        have hgo : Hid ((l.take (k + 1)).any (fun x => eqS x s) = false) := by
          unfold Hid
          rw [List.take_add_one, hx'.out, List.any_append, hall.out]
          simp [eqS, hxs]
        go_wp2
        go_roundw
        case rel => exact ⟨k + 1, by omega, by go_num, hgo, hbw⟩
        case measure => simp [intOf]; omega
    · have hkn : k = n := by omega
      have hF : R = false := by
        rw [← hR'.out]
        have := hall.out
        rwa [List.take_of_length_le (by rw [hn'.out]; omega)] at this
      subst hF
      go_wp2
      go_ret
      exact ⟨rfl, hbw⟩
end Go.Proofs

namespace Go.Proofs
open Go.RowKit

theorem pair_mem {l0 l1 : Int} {rs : List Rd} {ms : List Mv} {i j : Nat} (hij : i < j) (hj : j < rs.length) (h : contraAt l0 l1 rs ms i j = true) : (i, j) ∈ allPairs l0 l1 rs ms := by
  unfold allPairs pout pin
  simp only [List.mem_flatMap, List.mem_map, List.mem_filter, List.mem_range]
  exact ⟨i, by omega, j, ⟨hj, by simp [hij, h]⟩, rfl⟩
theorem contraAt_same {l0 l1 : Int} {rs : List Rd} {ms : List Mv} {i j : Nat} {x y : Rd} (hx : rs[i]? = some x) (hy : rs[j]? = some y) (h : contraAt l0 l1 rs ms i j = true) : x.c.toList = y.c.toList := by
  unfold contraAt at h
  rw [hx, hy] at h
  unfold contra eqS at h
  simp only [Bool.and_eq_true] at h
  simpa using h.1
def NoClash (l0 l1 : Int) (rs : List Rd) (ms : List Mv) (cask : ByteArray) (k : Nat) : Prop := ∀ (i j : Nat) (x : Rd), i < k → j < i → rs[i]? = some x → eqS x.c cask = true → contraAt l0 l1 rs ms j i = false
theorem clashed_yes {l0 l1 : Int} {rs : List Rd} {ms : List Mv} {cask : ByteArray} {j i : Nat} {x : Rd} (hji : j < i) (hx : rs[i]? = some x) (he : eqS x.c cask = true) (h : contraAt l0 l1 rs ms j i = true) : clashed rs cask (allPairs l0 l1 rs ms) = true := by
  have hi : i < rs.length := (List.getElem?_eq_some_iff.1 hx).1
  obtain ⟨y, hy⟩ : ∃ y, rs[j]? = some y := ⟨_, List.getElem?_eq_getElem (by omega)⟩
  have hs := contraAt_same hy hx h
  unfold clashed
  rw [List.any_eq_true]
  refine ⟨(j, i), pair_mem hji hi h, ?_⟩
  dsimp only
  rw [hy]
  dsimp only
  unfold eqS at he ⊢
  rw [hs]
  exact he
theorem clashed_no {l0 l1 : Int} {rs : List Rd} {ms : List Mv} {cask : ByteArray} (h : NoClash l0 l1 rs ms cask rs.length) : clashed rs cask (allPairs l0 l1 rs ms) = false := by
  unfold clashed
  rw [List.any_eq_false]
  rintro ⟨i, j⟩ hp
  dsimp only
  obtain ⟨hi, hj⟩ := allPairs_fst l0 l1 rs ms _ hp
  unfold allPairs pout pin at hp
  simp only [List.mem_flatMap, List.mem_map, List.mem_filter, List.mem_range, Prod.mk.injEq, Bool.and_eq_true, decide_eq_true_eq] at hp
  obtain ⟨a, ha, b, ⟨hb, hab, hc⟩, rfl, rfl⟩ := hp
  obtain ⟨x, hx⟩ : ∃ x, rs[a]? = some x := ⟨_, List.getElem?_eq_getElem ha⟩
  obtain ⟨y, hy⟩ : ∃ y, rs[b]? = some y := ⟨_, List.getElem?_eq_getElem hb⟩
  rw [hx]
  dsimp only
  intro he
  have hs := contraAt_same hx hy hc
  have : eqS y.c cask = true := by unfold eqS at he ⊢; rw [← hs]; exact he
  rw [h b a y hb hab hy this] at hc
  cases hc

def meetS (r1 r2 : Int) : Option (Int × Int) → Option (Int × Int)
  | none => some (r1, r2)
  | some (a, b) => some (max r1 a, min r2 b)
theorem meet_yes {l0 l1 : Int} {ms : List Mv} {cask : ByteArray} {day : Int} {ov : Option (Int × Int)} {x : Rd} (h : eqS x.c cask = true) : meet l0 l1 ms cask day ov x = meetS (allowsLo l0 l1 ms x day) (allowsHi l0 l1 ms x day) ov := by
  unfold meet meetS
  rw [if_pos h]
  cases ov <;> rfl
theorem noClash_skip {l0 l1 : Int} {rs : List Rd} {ms : List Mv} {cask : ByteArray} {k : Nat} {x : Rd} (h : NoClash l0 l1 rs ms cask k) (hx : rs[k]? = some x) (he : eqS x.c cask = false) : NoClash l0 l1 rs ms cask (k + 1) := by
  intro i j y hi hj hy hc
  by_cases hik : i < k
  · exact h i j y hik hj hy hc
  · obtain rfl : i = k := by omega
    rw [hx] at hy
    simp only [Option.some.injEq] at hy
    subst hy
    rw [he] at hc
    cases hc
theorem noClash_add {l0 l1 : Int} {rs : List Rd} {ms : List Mv} {cask : ByteArray} {k : Nat} (h : NoClash l0 l1 rs ms cask k) (hall : ∀ j, j < k → contraAt l0 l1 rs ms j k = false) : NoClash l0 l1 rs ms cask (k + 1) := by
  intro i j y hi hj hy hc
  by_cases hik : i < k
  · exact h i j y hik hj hy hc
  · obtain rfl : i = k := by omega
    exact hall j hj

set_option maxRecDepth 100000 in
set_option maxHeartbeats 1500000 in
theorem refVolumeAt_any (l0 l1 : Int) (A A2 : Option Addr) (rs : List Rd) (ms : List Mv) (c c2 : Nat) (cask : ByteArray) (day : Int) (w : World) (hok : Right l0 l1 rs ms) (hd0 : 0 ≤ day) (hd1 : day ≤ 100000)
    (hat : At 4 Rd.cs w A rs) (hat2 : At 4 Mv.cs w A2 ms) :
    Calls Try.prog 59 #[.agg #[.int .i64 l0, .int .i64 l1, .slice A rs.length c, .slice A2 ms.length c2], .string cask, .int .i64 day] w fun e w' =>
      e = .returned (.tuple #[.agg #[.int .i64 (atV l0 l1 rs ms cask day).1.1, .int .i64 (atV l0 l1 rs ms cask day).1.2], .int .i64 (atV l0 l1 rs ms cask day).2]) ∧ Below w.heap.size w w' := by
  have hctr := Lib.hid fun (a b : Nat) (x y : Rd) (hx : rs[a]? = some x) (hy : rs[b]? = some y) W (hb : Below w.heap.size w W) => refContradict_any l0 l1 A A2 rs ms c c2 a b x y W hok hx hy (hat.below hb) (hat2.below hb)
  have hAl := Lib.hid fun sr c (x : Rd) (hx : x ∈ rs) W (hW : Below w.heap.size w W) => refAllowed_any l0 l1 sr A2 ms c x day W hok.mn hok.mv (At.below hat2 hW) hok.l0.1 hok.l0.2 hok.l1.1 hok.l1.2 hd0 hd1 ⟨(hok.rd x hx).1, (hok.rd x hx).2.1⟩ ⟨(hok.rd x hx).2.2.1, (hok.rd x hx).2.2.2.1⟩ ⟨(hok.rd x hx).2.2.2.2.1, (hok.rd x hx).2.2.2.2.2⟩
  have hbd := Lib.hid fun k => meet_bd_take l0 l1 rs ms cask day hok hd0 hd1 (rs.take k) none (fun x hx => List.mem_of_mem_take hx) (fun a b h => by cases h)
  have hrn := hok.rn
  have hat' := Lib.hid hat
  have hV1 := Lib.hid fun (h : clashed rs cask (allPairs l0 l1 rs ms) = true) => show atV l0 l1 rs ms cask day = ((0, 0), 13) by unfold atV; rw [if_pos h]
  have hV2 := Lib.hid fun (h : clashed rs cask (allPairs l0 l1 rs ms) = false) (hf : rs.foldl (meet l0 l1 ms cask day) none = none) => show atV l0 l1 rs ms cask day = ((0, 0), 12) by unfold atV; rw [if_neg (by rw [h]; decide), hf]
  have hV3 := Lib.hid fun (h : clashed rs cask (allPairs l0 l1 rs ms) = false) a b (hf : rs.foldl (meet l0 l1 ms cask day) none = some (a, b)) => show atV l0 l1 rs ms cask day = ((a / 1000, -(-b / 1000)), 0) by unfold atV; rw [if_neg (by rw [h]; decide), hf]
  obtain ⟨V, hV⟩ : ∃ V, atV l0 l1 rs ms cask day = V := ⟨_, rfl⟩
  rw [hV]
  have hV' := Lib.hid hV
  clear hV hat hat2 hok
  obtain ⟨⟨V1, V2⟩, V3⟩ := V
  dsimp only
  go_enter Try.func59, Try.ntmps59
  go_wp2_with fail
  go_loopw [9, 10] (fun nn i wr => ∃ k : Nat, k ≤ rs.length ∧ i = .int .i64 k ∧ ∃ ov, Hid ((rs.take k).foldl (meet l0 l1 ms cask day) none = ov) ∧ nn = .bool ov.isNone ∧ Hid (NoClash l0 l1 rs ms cask k) ∧ Below w.heap.size w wr ∧ wr.heap[w.heap.size]? = some (.cells #[.int .i64 l0, .int .i64 l1, .slice A rs.length c, .slice A2 ms.length c2] 49 (0, 0)) ∧ wr.heap[w.heap.size + 1]? = some (.cells #[.int .i64 0, .int .i64 0] 24 (0, 0)) ∧ ∃ a b : Int, wr.heap[w.heap.size + 1 + 1]? = some (.cells #[.int .i64 a, .int .i64 b] 24 (0, 0)) ∧ ∀ p, ov = some p → a = p.1 ∧ b = p.2) (fun _ i _ => rs.length - (intOf i).toNat)
  case atStart => exact ⟨0, Nat.zero_le _, rfl, none, rfl, rfl, (fun i j x h => (Nat.not_lt_zero _ h).elim), by go_grown, by (repeat (first | assumption | (refine bk_new _ _ ?_; (simp; done)) | refine bk_drew ?_ | refine bk_alloc ?_ _ | refine bk_set ?_ (by simp <;> omega) _)), by (repeat (first | assumption | (refine bk_new _ _ ?_; (simp; done)) | refine bk_drew ?_ | refine bk_alloc ?_ _ | refine bk_set ?_ (by simp <;> omega) _)), 0, 0, by (repeat (first | assumption | (refine bk_new _ _ ?_; (simp; done)) | refine bk_drew ?_ | refine bk_alloc ?_ _ | refine bk_set ?_ (by simp <;> omega) _)), fun p h => by cases h⟩
  case round =>
    obtain ⟨k, hk, rfl, ov, hov, rfl, hnc, hbw, B0, B1, a, b, B2, hab⟩ := hrel
    have C0 := bk4 B0
    have C1 := bk2 B1
    have C2 := bk2 B2
    by_cases hlt : k < rs.length
    · obtain ⟨x, hx⟩ : ∃ x, rs[k]? = some x := ⟨_, List.getElem?_eq_getElem hlt⟩
      have hkI : (k : Int) < (rs.length : Int) := by omega
      obtain ⟨bb, o, rfl, hxy'⟩ := hat'.out.one' hx
      have hxy := Lib.hid hxy'
      have hft := foldl_take (meet l0 l1 ms cask day) none rs k x hx
      rw [hov.out] at hft
      have hxm := List.mem_of_getElem? hx
      obtain ⟨q, hq⟩ : ∃ q, eqS x.c cask = q := ⟨_, rfl⟩
      cases q
      · have hnc' := Lib.hid (noClash_skip hnc.out hx hq)
        have hft' : Hid ((rs.take (k + 1)).foldl (meet l0 l1 ms cask day) none = ov) := by
          unfold Hid
          rw [hft]
          unfold meet
          rw [if_neg (by rw [hq]; decide)]
        unfold eqS at hq
        obtain ⟨xc, xd, xl, xh⟩ := x
        dsimp only at hq
        clear hft hnc hov hxy' hx hxm
        obtain ⟨hbb, hcx⟩ := hxy.out wr hbw; have x0 := hcx 0 _ rfl; have x1 := hcx 1 _ rfl; have x2 := hcx 2 _ rfl; have x3 := hcx 3 _ rfl; simp only [Nat.add_zero] at x0; dsimp only at x0 x1 x2 x3; clear hcx
        go_wp2
        go_roundw
        case rel => exact ⟨k + 1, by omega, by go_num, ov, hft', rfl, hnc', hbw, B0, B1, a, b, B2, hab⟩
        case measure => simp [intOf]; omega
      · have hadd := Lib.hid fun h => noClash_add (cask := cask) hnc.out h
        have hyes := Lib.hid fun j (hj : j < k) h => hV1.out (clashed_yes hj hx hq h)
        have hcx := Lib.hid fun (j : Nat) (hj : j < k) W (hb : Below w.heap.size w W) => show Calls Try.prog 53 #[.agg #[.int .i64 l0, .int .i64 l1, .slice (some ⟨bb, o, none⟩) rs.length c, .slice A2 ms.length c2], .int .i64 j, .int .i64 k] W fun e w' => e = .returned (.bool (contraAt l0 l1 rs ms j k)) ∧ Below W.heap.size W w' from by
          obtain ⟨y, hy⟩ : ∃ y, rs[j]? = some y := ⟨_, List.getElem?_eq_getElem (by omega)⟩
          have := hctr.out j k y x hy hx W hb
          rwa [show contra l0 l1 ms y x = contraAt l0 l1 rs ms j k by unfold contraAt; rw [hy, hx]] at this
        have hA1 := Lib.hid fun sr c W hW => hAl.out sr c x hxm W hW
        have hbk := hbd.out (k + 1)
        rw [hft] at hbk
        rw [meet_yes hq] at hft hbk
        have hft' := Lib.hid hft
        unfold eqS at hq
        generalize allowsLo l0 l1 ms x day = r1 at *
        generalize allowsHi l0 l1 ms x day = r2 at *
        obtain ⟨xc, xd, xl, xh⟩ := x
        dsimp only at hq hA1
        clear hft hnc hxy' hx hxm hAl hctr
        obtain ⟨hbb, hcx⟩ := hxy.out wr hbw; have x0 := hcx 0 _ rfl; have x1 := hcx 1 _ rfl; have x2 := hcx 2 _ rfl; have x3 := hcx 3 _ rfl; simp only [Nat.add_zero] at x0; dsimp only at x0 x1 x2 x3; clear hcx
        go_wp2_with fail
        go_loopw [11] (fun j wr => ∃ m : Nat, m ≤ k ∧ j = .int .i64 m ∧ Hid (∀ t, t < m → contraAt l0 l1 rs ms t k = false) ∧ Below w.heap.size w wr ∧ wr.heap[w.heap.size]? = some (.cells #[.int .i64 l0, .int .i64 l1, .slice (some ⟨bb, o, none⟩) rs.length c, .slice A2 ms.length c2] 49 (0, 0)) ∧ wr.heap[w.heap.size + 1]? = some (.cells #[.int .i64 0, .int .i64 0] 24 (0, 0)) ∧ ∃ a b : Int, wr.heap[w.heap.size + 1 + 1]? = some (.cells #[.int .i64 a, .int .i64 b] 24 (0, 0)) ∧ ∀ p, ov = some p → a = p.1 ∧ b = p.2) (fun j _ => k - (intOf j).toNat)
        case atStart => exact ⟨0, Nat.zero_le _, rfl, (fun t h => (Nat.not_lt_zero _ h).elim), hbw, B0, B1, a, b, B2, hab⟩
        case round =>
          clear x0 x1 x2 x3 hbb C0 C1 C2 B0 B1 B2 hbw hab a b
          obtain ⟨m, hm, rfl, hall, hbw, B0, B1, a, b, B2, hab⟩ := hrel
          have C0 := bk4 B0
          have C1 := bk2 B1
          have C2 := bk2 B2
          by_cases hmk : m < k
          · have hmI : (m : Int) < (k : Int) := by omega
            have hc53 := Lib.hid fun W hb => hcx.out m hmk W hb
            obtain ⟨cc, hcc⟩ : ∃ cc, contraAt l0 l1 rs ms m k = cc := ⟨_, rfl⟩
            rw [hcc] at hc53
            cases cc
            · have hall' : Hid (∀ t, t < m + 1 → contraAt l0 l1 rs ms t k = false) := fun t ht => by
                by_cases htm : t < m
                · exact hall.out t htm
                · obtain rfl : t = m := by omega
                  exact hcc
              clear hcc hall
              go_wp2_with (first | (go_at_call 53; refine (hc53.out _ hbw).mono ?_; rintro e w5 ⟨rfl, hb⟩; have hbw := via hbw hb; have B0 := bk_keep hb B0; have B1 := bk_keep hb B1; have B2 := bk_keep hb B2; replace C0 := bk4 B0; replace C1 := bk2 B1; replace C2 := bk2 B2))
              go_roundw
              case rel => exact ⟨m + 1, by omega, by go_num, hall', hbw, B0, B1, a, b, B2, hab⟩
              case measure => simp [intOf]; omega
            · have hv := hyes.out m hmk hcc
              rw [hV'.out] at hv
              simp only [Prod.mk.injEq] at hv
              obtain ⟨⟨rfl, rfl⟩, rfl⟩ := hv
              clear hcc hall
              go_wp2_with (first | (go_at_call 53; refine (hc53.out _ hbw).mono ?_; rintro e w5 ⟨rfl, hb⟩; have hbw := via hbw hb; have B0 := bk_keep hb B0; have B1 := bk_keep hb B1; have B2 := bk_keep hb B2; replace C0 := bk4 B0; replace C1 := bk2 B1; replace C2 := bk2 B2))
              refine bodyPost_ret (v := .tuple #[.agg #[.int .i64 0, .int .i64 0], .int .i64 13]) ?_ rfl ⟨rfl, by go_grown⟩
              simp [results, Try.results59, go_sem, C1]
          · have hmk' : ¬ (m : Int) < (k : Int) := by omega
            obtain rfl : m = k := by omega
            have hnc' := Lib.hid (hadd.out hall.out)
            clear hcx hyes hadd hall hV1 hV2 hV3
            have hn0 : w.heap.size ≠ w.heap.size + 1 + 1 := by omega
            have hn1 : w.heap.size + 1 ≠ w.heap.size + 1 + 1 := by omega
            cases ov with
            | none =>
              go_wp2_with fail
              apply region_store w 8 9 12 (.cells #[.int .i64 0, .int .i64 0] 24 (0, 0)) (.cells #[.int .i64 r1, .int .i64 r2] 24 (0, 0))
              case hm => kernel_rfl
              case hB => kernel_rfl
              case hB' => kernel_rfl
              case hS => kernel_rfl
              case hN => kernel_rfl
              case hw => exact hbw
              case hal => intro o ho; simp at ho; subst ho; intro a x; kernel_rfl
              case hq =>
                intro u hu hgc hbx hbX
                have D0 := bk4 (bk_keep hu B0)
                obtain ⟨hbb, hcx⟩ := hxy.out u (via hbw hu); have x0 := hcx 0 _ rfl; have x1 := hcx 1 _ rfl; have x2 := hcx 2 _ rfl; have x3 := hcx 3 _ rfl; simp only [Nat.add_zero] at x0; dsimp only at x0 x1 x2 x3; clear hcx
                simp only [dummyAt, struck, Nat.reduceAdd, Nat.reduceBEq, Nat.zero_add, Bool.or_false, Bool.or_true, Bool.false_or, Bool.true_or, Bool.false_eq_true, if_true, if_false, Bool.or_self]
                repeat (go_big_quiet_step ((go_at_call 107; exact Grew.call (hA1.out _ _ _ (hbx.out _)))))
                exact wpQuiet_nil rfl
              case hst =>
                intro o ho B x hx hB hz
                simp only [List.getElem?_cons_succ, List.getElem?_cons_zero, Option.some.injEq] at ho
                subst ho
                exact ⟨_, run_store2 rfl rfl rfl (by kernel_rfl) (by kernel_rfl) (by kernel_rfl) hz, below_in (below_in hx hB _) hB _, bk_here (bk_here hz _ rfl) _ rfl⟩
              case h =>
              intro B u hB hu hbu E1
              simp only [Act.put, List.setIfInBounds_toArray, List.set_cons_succ, List.set_cons_zero]
              have D0 := bk_keep hu B0
              have D1 := bk_keep hu B1
              have D2 := bk_keep hu B2
              have hne : w.heap.size + 1 + 1 < B := Nat.lt_of_lt_of_le (bk_size B2) hB
              clear C0 C1 C2
              have C0 := bk4 D0
              have C2 := bk2 D2
              have CE := bk2 E1
              go_wp2
              go_roundw
              case rel => exact ⟨m + 1, by omega, by go_num, some (r1, r2), hft', rfl, hnc', by go_grown, by repeat (first | exact D0 | refine bk_set ?_ hn0 _), by repeat (first | exact D1 | refine bk_set ?_ hn1 _), r1, r2, bk_here (bk_here (bk_here (bk_here D2 _ rfl) _ rfl) _ rfl) _ rfl, fun p hp => by cases hp; exact ⟨rfl, rfl⟩⟩
              case measure => simp [intOf]; omega
            | some p =>
              obtain ⟨pa, pb⟩ := p
              obtain ⟨rfl, rfl⟩ := hab _ rfl
              rw [show (some (a, b) : Option (Int × Int)).isNone = false from rfl]
              clear hab
              obtain ⟨M1, hM1⟩ : ∃ u, (if a < r1 then r1 else a) = u := ⟨_, rfl⟩
              obtain ⟨M2, hM2⟩ : ∃ u, (if r2 < b then r2 else b) = u := ⟨_, rfl⟩
              have e1 : max r1 a = M1 := by rw [← hM1]; split <;> omega
              have e2 : min r2 b = M2 := by rw [← hM2]; split <;> omega
              unfold meetS at hft'
              dsimp only at hft'
              rw [e1, e2] at hft'
              clear e1 e2
              go_wp2_with fail
              apply region_store w 8 9 12 (.cells #[.int .i64 0, .int .i64 0] 24 (0, 0)) (.cells #[.int .i64 r1, .int .i64 r2] 24 (0, 0))
              case hm => kernel_rfl
              case hB => kernel_rfl
              case hB' => kernel_rfl
              case hS => kernel_rfl
              case hN => kernel_rfl
              case hw => exact hbw
              case hal => intro o ho; simp at ho; subst ho; intro a x; kernel_rfl
              case hq =>
                intro u hu hgc hbx hbX
                have D0 := bk4 (bk_keep hu B0)
                obtain ⟨hbb, hcx⟩ := hxy.out u (via hbw hu); have x0 := hcx 0 _ rfl; have x1 := hcx 1 _ rfl; have x2 := hcx 2 _ rfl; have x3 := hcx 3 _ rfl; simp only [Nat.add_zero] at x0; dsimp only at x0 x1 x2 x3; clear hcx
                simp only [dummyAt, struck, Nat.reduceAdd, Nat.reduceBEq, Nat.zero_add, Bool.or_false, Bool.or_true, Bool.false_or, Bool.true_or, Bool.false_eq_true, if_true, if_false, Bool.or_self]
                repeat (go_big_quiet_step ((go_at_call 107; exact Grew.call (hA1.out _ _ _ (hbx.out _)))))
                exact wpQuiet_nil rfl
              case hst =>
                intro o ho B x hx hB hz
                simp only [List.getElem?_cons_succ, List.getElem?_cons_zero, Option.some.injEq] at ho
                subst ho
                exact ⟨_, run_store2 rfl rfl rfl (by kernel_rfl) (by kernel_rfl) (by kernel_rfl) hz, below_in (below_in hx hB _) hB _, bk_here (bk_here hz _ rfl) _ rfl⟩
              case h =>
              intro B u hB hu hbu E1
              simp only [Act.put, List.setIfInBounds_toArray, List.set_cons_succ, List.set_cons_zero]
              have D0 := bk_keep hu B0
              have D1 := bk_keep hu B1
              have D2 := bk_keep hu B2
              have hne : w.heap.size + 1 + 1 < B := Nat.lt_of_lt_of_le (bk_size B2) hB
              clear C0 C1 C2
              have C0 := bk4 D0
              have C2 := bk2 D2
              have CE := bk2 E1
              go_wp2
              go_roundw
              case rel => exact ⟨m + 1, by omega, by go_num, some (M1, M2), hft', rfl, hnc', by go_grown, by repeat (first | exact D0 | refine bk_set ?_ hn0 _), by repeat (first | exact D1 | refine bk_set ?_ hn1 _), M1, M2, bk_here (bk_here D2 _ rfl) _ rfl, fun p hp => by cases hp; exact ⟨rfl, rfl⟩⟩
              case measure => simp [intOf]; omega
    · have hkn : ¬ (k : Int) < (rs.length : Int) := by omega
      have hbdk := hbd.out k
      rw [hov.out] at hbdk
      have hall : rs.take k = rs := List.take_of_length_le (by omega)
      have hkk : k = rs.length := by omega
      have hcn := clashed_no (show NoClash l0 l1 rs ms cask rs.length from hkk ▸ hnc.out)
      have hov2 := hov.out
      rw [hall] at hov2
      cases ov with
      | none =>
        have hv := hV2.out hcn hov2
        rw [hV'.out] at hv
        simp only [Prod.mk.injEq] at hv
        obtain ⟨⟨rfl, rfl⟩, rfl⟩ := hv
        clear hall hkk hcn hov hov2 hctr hAl hbd hV1 hV2 hV3 hat'
        go_wp2
        refine bodyPost_ret (v := .tuple #[.agg #[.int .i64 0, .int .i64 0], .int .i64 12]) ?_ rfl ⟨rfl, by go_grown⟩
        simp [results, Try.results59, go_sem, C1]
      | some p =>
        obtain ⟨pa, pb⟩ := p
        obtain ⟨rfl, rfl⟩ := hab _ rfl
        rw [show (some (a, b) : Option (Int × Int)).isNone = false from rfl]
        clear hab
        have hv := hV3.out hcn _ _ hov2
        rw [hV'.out] at hv
        simp only [Prod.mk.injEq] at hv
        obtain ⟨⟨rfl, rfl⟩, rfl⟩ := hv
        obtain ⟨t1, t2, t3, t4⟩ := hbdk _ _ rfl
        have hT := Lib.hid fun W => refTold_any a b W (by omega) (by omega) (by omega) (by omega)
        clear hall hkk hcn hov hov2 hctr hAl hbd hV1 hV2 hV3 hat' hV'
        go_wp2_with (go_at_call 111; refine (hT.out _).mono ?_; rintro e w5 ⟨rfl, hb⟩; have hbw := via hbw hb; have B1 := bk_keep hb B1; replace C1 := bk2 B1)
        refine bodyPost_ret (v := .tuple #[.agg #[.int .i64 (a / 1000), .int .i64 (-(-b / 1000))], .int .i64 0]) ?_ rfl ⟨rfl, by go_grown⟩
        simp [results, Try.results59, go_sem, C1]
end Go.Proofs

namespace Go.Proofs
open Go.RowKit

/-! What all casks hold. -/
def seen (rs : List Rd) (k : Nat) (c : ByteArray) : Bool := (rs.take k).any fun y => eqS y.c c
def totF (l0 l1 : Int) (rs : List Rd) (ms : List Mv) (day : Int) : Nat → (Int × Int) × Int
  | 0 => ((0, 0), 0)
  | k + 1 => if (totF l0 l1 rs ms day k).2 ≠ 0 then totF l0 l1 rs ms day k else
    match rs[k]? with
    | none => totF l0 l1 rs ms day k
    | some x => if seen rs k x.c = true then totF l0 l1 rs ms day k else
      if (atV l0 l1 rs ms x.c day).2 ≠ 0 then ((0, 0), (atV l0 l1 rs ms x.c day).2) else
        (((totF l0 l1 rs ms day k).1.1 + (atV l0 l1 rs ms x.c day).1.1, (totF l0 l1 rs ms day k).1.2 + (atV l0 l1 rs ms x.c day).1.2), 0)
theorem atV_bd {l0 l1 : Int} {rs : List Rd} {ms : List Mv} {cask : ByteArray} {day : Int} (hok : Right l0 l1 rs ms) (h0 : 0 ≤ day) (h1 : day ≤ 100000) :
    -20000001 ≤ (atV l0 l1 rs ms cask day).1.1 ∧ (atV l0 l1 rs ms cask day).1.1 ≤ 20000001 ∧ -20000001 ≤ (atV l0 l1 rs ms cask day).1.2 ∧ (atV l0 l1 rs ms cask day).1.2 ≤ 20000001 := by
  unfold atV
  split
  · dsimp only; omega
  · have hb := meet_bd_take l0 l1 rs ms cask day hok h0 h1 rs none (fun _ h => h) (fun a b h => by cases h)
    cases hf : rs.foldl (meet l0 l1 ms cask day) none with
    | none => dsimp only; omega
    | some p =>
      obtain ⟨a, b⟩ := p
      rw [hf] at hb
      obtain ⟨b1, b2, b3, b4⟩ := hb a b rfl
      dsimp only
      omega
theorem totF_bd {l0 l1 : Int} {rs : List Rd} {ms : List Mv} {day : Int} (hok : Right l0 l1 rs ms) (h0 : 0 ≤ day) (h1 : day ≤ 100000) : ∀ k : Nat,
    -(20000001 * (k : Int)) ≤ (totF l0 l1 rs ms day k).1.1 ∧ (totF l0 l1 rs ms day k).1.1 ≤ 20000001 * (k : Int) ∧ -(20000001 * (k : Int)) ≤ (totF l0 l1 rs ms day k).1.2 ∧ (totF l0 l1 rs ms day k).1.2 ≤ 20000001 * (k : Int)
  | 0 => by simp [totF]
  | k + 1 => by
    have ih := totF_bd hok h0 h1 k
    unfold totF
    split
    · omega
    · cases hx : rs[k]? with
      | none => dsimp only; omega
      | some x =>
        have hb := atV_bd (cask := x.c) hok h0 h1
        dsimp only
        split
        · omega
        · split
          · dsimp only; omega
          · dsimp only; omega
theorem seen_succ {rs : List Rd} {k : Nat} {x : Rd} (hx : rs[k]? = some x) (s : ByteArray) : seen rs (k + 1) s = (seen rs k s || eqS x.c s) := by
  obtain ⟨hk, he⟩ := List.getElem?_eq_some_iff.1 hx
  unfold seen
  rw [List.take_succ_eq_append_getElem hk, List.any_append, he]
  simp
theorem seen_old {rs : List Rd} {k : Nat} {x : Rd} (hx : rs[k]? = some x) (h : seen rs k x.c = true) (s : ByteArray) : seen rs (k + 1) s = seen rs k s := by
  rw [seen_succ hx]
  cases he : eqS x.c s with
  | false => simp
  | true => rw [← eqS_eq he, h]; rfl
theorem totF_seen {l0 l1 : Int} {rs : List Rd} {ms : List Mv} {day : Int} {k : Nat} {x : Rd} (hx : rs[k]? = some x) (h : seen rs k x.c = true) : totF l0 l1 rs ms day (k + 1) = totF l0 l1 rs ms day k := by
  conv => lhs; unfold totF
  split
  · rfl
  · rw [hx]
    dsimp only
    rw [if_pos h]
theorem totF_bad {l0 l1 : Int} {rs : List Rd} {ms : List Mv} {day : Int} {k : Nat} {x : Rd} (h0 : (totF l0 l1 rs ms day k).2 = 0) (hx : rs[k]? = some x) (h : seen rs k x.c = false) (hv : (atV l0 l1 rs ms x.c day).2 ≠ 0) : totF l0 l1 rs ms day (k + 1) = ((0, 0), (atV l0 l1 rs ms x.c day).2) := by
  conv => lhs; unfold totF
  rw [if_neg (by rw [h0]; decide), hx]
  dsimp only
  rw [if_neg (by rw [h]; decide), if_pos hv]
theorem totF_add {l0 l1 : Int} {rs : List Rd} {ms : List Mv} {day : Int} {k : Nat} {x : Rd} (h0 : (totF l0 l1 rs ms day k).2 = 0) (hx : rs[k]? = some x) (h : seen rs k x.c = false) (hv : (atV l0 l1 rs ms x.c day).2 = 0) :
    totF l0 l1 rs ms day (k + 1) = (((totF l0 l1 rs ms day k).1.1 + (atV l0 l1 rs ms x.c day).1.1, (totF l0 l1 rs ms day k).1.2 + (atV l0 l1 rs ms x.c day).1.2), 0) := by
  conv => lhs; unfold totF
  rw [if_neg (by rw [h0]; decide), hx]
  dsimp only
  rw [if_neg (by rw [h]; decide), if_neg (by rw [hv]; decide)]
theorem totF_stop {l0 l1 : Int} {rs : List Rd} {ms : List Mv} {day : Int} {k : Nat} (h : (totF l0 l1 rs ms day k).2 ≠ 0) : ∀ m, totF l0 l1 rs ms day (k + m) = totF l0 l1 rs ms day k
  | 0 => rfl
  | m + 1 => by
    have ih := totF_stop h m
    rw [← Nat.add_assoc]
    conv => lhs; unfold totF
    rw [ih, if_pos h]
theorem At.take {α : Type} {sz : Nat} {cs : α → List Value} {w : World} {A : Option Addr} {l : List α} (h : At sz cs w A l) (n : Nat) : At sz cs w A (l.take n) := by
  intro k x hx
  refine h k x ?_
  by_cases hk : k < n
  · rwa [List.getElem?_take_of_lt hk] at hx
  · rw [List.getElem?_take_eq_none (by omega)] at hx
    cases hx

set_option maxRecDepth 100000 in
set_option maxHeartbeats 400000 in
theorem sameCask_any (y : Rd) (xc : ByteArray) (xd xl xh : Int) (B : Nat) (w : World) (hB : w.heap[B]? = some (.cells #[.string xc, .int .i64 xd, .int .i64 xl, .int .i64 xh] 73 (0, 0))) :
    Calls Try.prog 110 #[.agg #[.string y.c, .int .i64 y.d, .int .i64 y.lo, .int .i64 y.hi], .pointer (some ⟨B, 0, none⟩)] w fun e w' => e = .returned (.bool (eqS y.c xc)) ∧ Below w.heap.size w w' := by
  have C := bk4 hB
  unfold eqS
  obtain ⟨q, hq⟩ : ∃ q, (y.c.toList == xc.toList) = q := ⟨_, rfl⟩
  rw [hq]
  cases q
  all_goals
    go_enter Try.func110, Try.ntmps110
    go_wp2
    go_ret
    exact ⟨rfl, new_below _ _⟩
set_option maxRecDepth 100000 in
set_option maxHeartbeats 1000000 in
theorem indexFunc_any (A : Option Addr) (l : List Rd) (c : Nat) (xc : ByteArray) (xd xl xh : Int) (B : Nat) (w : World) (hl : l.length ≤ 1000000) (hat : At 4 Rd.cs w A l) (hB : w.heap[B]? = some (.cells #[.string xc, .int .i64 xd, .int .i64 xl, .int .i64 xh] 73 (0, 0))) :
    Calls Try.prog 117 #[.slice A l.length c, .func (.func 110) #[] #[.pointer (some ⟨B, 0, none⟩)]] w fun e w' => (∃ r : Int, e = .returned (.int .i64 r) ∧ decide (0 ≤ r) = l.any fun y => eqS y.c xc) ∧ Below w.heap.size w w' := by
  have hC := Lib.hid fun (y : Rd) W (hb : Below w.heap.size w W) => sameCask_any y xc xd xl xh B W (bk_keep hb hB)
  have hat' := Lib.hid hat
  obtain ⟨n, hn⟩ : ∃ n, l.length = n := ⟨_, rfl⟩
  have hn' := Lib.hid hn
  rw [hn] at hl ⊢
  clear hat hB hn
  go_enter Try.func117, Try.ntmps117
  go_wp2_with fail
  go_loopw [8] (fun i wr => ∃ k : Nat, k ≤ n ∧ i = .int .i64 k ∧ Hid (((l.take k).any fun y => eqS y.c xc) = false) ∧ Below w.heap.size w wr) (fun i _ => n - (intOf i).toNat)
  case atStart => exact ⟨0, Nat.zero_le _, rfl, rfl, Below.refl _ _⟩
  case round =>
    obtain ⟨k, hk, rfl, hno, hbw⟩ := hrel
    by_cases hlt : k < n
    · obtain ⟨y, hy⟩ : ∃ y, l[k]? = some y := ⟨_, List.getElem?_eq_getElem (by rw [hn'.out]; exact hlt)⟩
      obtain ⟨b, o, rfl, hbb, hc⟩ := hat'.out.below hbw k y hy
      have hCy := Lib.hid fun W hb => hC.out y W hb
      obtain ⟨q, hq⟩ : ∃ q, eqS y.c xc = q := ⟨_, rfl⟩
      have hnext : Hid (((l.take (k + 1)).any fun y => eqS y.c xc) = q) := by
        obtain ⟨hk', he⟩ := List.getElem?_eq_some_iff.1 hy
        unfold Hid
        rw [List.take_succ_eq_append_getElem hk', List.any_append, he, hno.out]
        simpa using hq
      have hall : Hid (q = true → (l.any fun y => eqS y.c xc) = true) := fun h => by
        rw [List.any_eq_true]
        exact ⟨y, List.mem_of_getElem? hy, by rw [hq, h]⟩
      rw [hq] at hCy
      obtain ⟨yc, yd, yl, yh⟩ := y
      have y0 := hc 0 _ rfl
      have y1 := hc 1 _ rfl
      have y2 := hc 2 _ rfl
      have y3 := hc 3 _ rfl
      simp only [Nat.add_zero] at y0
      dsimp only at y0 y1 y2 y3 hCy
      have hkI : (k : Int) < (n : Int) := by omega
      clear hc hy hq hno hC
      cases q
      · go_wp2_with (go_at_call 110; refine (hCy.out _ hbw).mono ?_; rintro e w1 ⟨rfl, hb⟩; have hbw := via hbw hb)
        go_roundw
        case rel => exact ⟨k + 1, by omega, by go_num, hnext, hbw⟩
        case measure => simp [intOf]; omega
      · have ht := hall.out rfl
        go_wp2_with (go_at_call 110; refine (hCy.out _ hbw).mono ?_; rintro e w1 ⟨rfl, hb⟩; have hbw := via hbw hb)
        go_ret
        exact ⟨⟨k, rfl, by rw [ht]; simp⟩, hbw⟩
    · have hkn : k = n := by omega
      subst hkn
      have hno2 := hno.out
      rw [List.take_of_length_le (by rw [hn'.out]; exact Nat.le_refl _)] at hno2
      have hno3 := Lib.hid hno2
      clear hno hno2 hC
      go_wp2
      go_ret
      exact ⟨⟨-1, rfl, by rw [hno3.out]; decide⟩, hbw⟩
set_option maxRecDepth 100000 in
set_option maxHeartbeats 400000 in
theorem containsFunc_any (A : Option Addr) (l : List Rd) (c : Nat) (xc : ByteArray) (xd xl xh : Int) (B : Nat) (w : World) (hl : l.length ≤ 1000000) (hat : At 4 Rd.cs w A l) (hB : w.heap[B]? = some (.cells #[.string xc, .int .i64 xd, .int .i64 xl, .int .i64 xh] 73 (0, 0))) :
    Calls Try.prog 109 #[.slice A l.length c, .func (.func 110) #[] #[.pointer (some ⟨B, 0, none⟩)]] w fun e w' => e = .returned (.bool (l.any fun y => eqS y.c xc)) ∧ Below w.heap.size w w' := by
  have hI := indexFunc_any A l c xc xd xl xh B w hl hat hB
  generalize (l.any fun y => eqS y.c xc) = q at *
  generalize l.length = n at *
  clear hat hB
  go_enter Try.func109, Try.ntmps109
  go_wp2_with (go_at_call 117; refine hI.mono ?_; rintro e w1 ⟨⟨r, rfl, hr⟩, hb⟩)
  go_ret
  exact ⟨rfl, hb⟩
end Go.Proofs

namespace Go.Proofs
open Go.RowKit

theorem info9 : (Try.prog.info? 9).map (fun i => (i.zero, i.size, i.bytes)) = some (some (.string { data := #[] }), 1, 16) := by kernel_rfl
theorem owns_set {w : World} {base : Nat} {e : TypeId} {size : Nat} {v : Value} {n : Nat} {xs : List Value} (h : w.ownsRow base e size v n xs) {p : Addr} (hp : p.block < base) (u : Value) : (w.setCell p u).ownsRow base e size v n xs :=
  h.kept (row := some p.block) ⟨rfl, rfl, rfl, by simp, fun k _ hne => Below.heap_setCell w p u k (fun e => hne (by rw [e]))⟩ (by
    cases hb : v.ownBlock with
    | none => exact .inl rfl
    | some r =>
      refine .inr fun e => ?_
      have := (h.lt r hb).1
      simp only [Option.some.injEq] at e
      omega)
set_option maxRecDepth 100000 in
set_option maxHeartbeats 1000000 in
theorem refTotalAt_any (l0 l1 : Int) (A A2 : Option Addr) (rs : List Rd) (ms : List Mv) (c c2 : Nat) (day : Int) (w : World) (hok : Right l0 l1 rs ms) (hd0 : 0 ≤ day) (hd1 : day ≤ 100000) (hne : 0 < rs.length)
    (hat : At 4 Rd.cs w A rs) (hat2 : At 4 Mv.cs w A2 ms) :
    Calls Try.prog 60 #[.agg #[.int .i64 l0, .int .i64 l1, .slice A rs.length c, .slice A2 ms.length c2], .int .i64 day] w fun e w' =>
      e = .returned (.tuple #[.agg #[.int .i64 (totF l0 l1 rs ms day rs.length).1.1, .int .i64 (totF l0 l1 rs ms day rs.length).1.2], .int .i64 (totF l0 l1 rs ms day rs.length).2]) ∧ Below w.heap.size w w' := by
  have hVol := Lib.hid fun cask W (hb : Below w.heap.size w W) => refVolumeAt_any l0 l1 A A2 rs ms c c2 cask day W hok hd0 hd1 (hat.below hb) (hat2.below hb)
  have hrn := hok.rn
  have hat' := Lib.hid hat
  have hbt := Lib.hid fun k => totF_bd hok hd0 hd1 k
  have hbv := Lib.hid fun cask => atV_bd (cask := cask) hok hd0 hd1
  obtain ⟨i0, hi, hz0, hz1, hz2⟩ := info_parts info9
  have hneI : ((rs.length : Int) == 0) = false := by rw [beq_eq_false_iff_ne]; omega
  clear hat hat2 hok
  obtain ⟨T, hT⟩ : ∃ T, totF l0 l1 rs ms day rs.length = T := ⟨_, rfl⟩
  rw [hT]
  have hT' := Lib.hid hT
  clear hT
  obtain ⟨⟨T1, T2⟩, T3⟩ := T
  dsimp only
  go_enter Try.func60, Try.ntmps60
  go_wp2_with fail
  go_loopw [7, 8] (fun v i wr => ∃ k : Nat, k ≤ rs.length ∧ i = .int .i64 k ∧ ∃ D : List ByteArray, wr.ownsRow (w.heap.size + 1 + 1 + 1) 9 1 v D.length (D.flatMap Txt.cs) ∧ Hid (∀ s, (D.any fun x => eqS x s) = seen rs k s) ∧ D.length ≤ k ∧ Hid ((totF l0 l1 rs ms day k).2 = 0) ∧
    Below w.heap.size w wr ∧ wr.heap[w.heap.size]? = some (.cells #[.int .i64 l0, .int .i64 l1, .slice A rs.length c, .slice A2 ms.length c2] 49 (0, 0)) ∧ wr.heap[w.heap.size + 1]? = some (.cells #[.int .i64 0, .int .i64 0] 24 (0, 0)) ∧ wr.heap[w.heap.size + 1 + 1]? = some (.cells #[.int .i64 (totF l0 l1 rs ms day k).1.1, .int .i64 (totF l0 l1 rs ms day k).1.2] 24 (0, 0))) (fun _ i _ => rs.length - (intOf i).toNat)
  case atStart => exact ⟨0, Nat.zero_le _, rfl, [], World.ownsRow_nil _ _ _ _, (fun s => rfl), Nat.le_refl _, rfl, by go_grown, by (repeat (first | assumption | (refine bk_new _ _ ?_; (simp; done)) | refine bk_drew ?_ | refine bk_alloc ?_ _ | refine bk_set ?_ (by simp <;> omega) _)), by (repeat (first | assumption | (refine bk_new _ _ ?_; (simp; done)) | refine bk_drew ?_ | refine bk_alloc ?_ _ | refine bk_set ?_ (by simp <;> omega) _)), by (repeat (first | assumption | (refine bk_new _ _ ?_; (simp; done)) | refine bk_drew ?_ | refine bk_alloc ?_ _ | refine bk_set ?_ (by simp <;> omega) _))⟩
  case round =>
    obtain ⟨k, hk, rfl, D, hown, hD, hDk, h0, hbw, B0, B1, B2⟩ := hrel
    obtain ⟨Av, cv, rfl, hatD⟩ := at_of_owns (cs := Txt.cs) (sz := 1) (fun _ => rfl) hown
    have C0 := bk4 B0
    have C1 := bk2 B1
    have C2 := bk2 B2
    have hs3 : w.heap.size + 1 + 1 < wr.heap.size := bk_size B2
    by_cases hlt : k < rs.length
    · obtain ⟨x, hx⟩ : ∃ x, rs[k]? = some x := ⟨_, List.getElem?_eq_getElem hlt⟩
      have hkI : (k : Int) < (rs.length : Int) := by omega
      obtain ⟨bb, o, rfl, hxy'⟩ := hat'.out.one' hx
      have hxy := Lib.hid hxy'
      have hH := Lib.hid fun s W (hb : Below wr.heap.size wr W) => hasText_any Av D cv s W (by omega) (hatD.below hb)
      have hHx := Lib.hid fun W hb => hH.out x.c W hb
      rw [hD.out] at hHx
      obtain ⟨q, hq⟩ : ∃ q, seen rs k x.c = q := ⟨_, rfl⟩
      rw [hq] at hHx
      have hown' := Lib.hid hown
      clear hown hatD hH
      cases q
      · have hsn := Lib.hid (seen_succ hx)
        obtain ⟨V, hV⟩ : ∃ V, atV l0 l1 rs ms x.c day = V := ⟨_, rfl⟩
        have hVx := Lib.hid fun W hb => hVol.out x.c W hb
        have hbv1 := hbv.out x.c
        have hbt1 := hbt.out k
        have hbad := Lib.hid fun h => totF_bad h0.out hx hq (show (atV l0 l1 rs ms x.c day).2 ≠ 0 from h)
        have hadd := Lib.hid fun h => totF_add h0.out hx hq (show (atV l0 l1 rs ms x.c day).2 = 0 from h)
        rw [hV] at hVx hbv1 hbad hadd
        obtain ⟨⟨V1, V2⟩, V3⟩ := V
        obtain ⟨S, hS⟩ : ∃ S, totF l0 l1 rs ms day k = S := ⟨_, rfl⟩
        rw [hS] at B2 C2 hbt1 hadd h0
        obtain ⟨⟨S1, S2⟩, S3⟩ := S
        obtain ⟨xc, xd, xl, xh⟩ := x
        dsimp only at hHx hVx hbv1 hbad hadd hsn B2 C2 hbt1 h0
        obtain ⟨v1a, v1b, v2a, v2b⟩ := hbv1
        obtain ⟨s1a, s1b, s2a, s2b⟩ := hbt1
        have hstop := Lib.hid fun (h : (totF l0 l1 rs ms day (k + 1)).2 ≠ 0) => show totF l0 l1 rs ms day rs.length = totF l0 l1 rs ms day (k + 1) from by
          have := totF_stop h (rs.length - (k + 1))
          rwa [show k + 1 + (rs.length - (k + 1)) = rs.length by omega] at this
        clear hq hx hxy' hV hS
        have hbw0 := hbw
        obtain ⟨hbb, hcx⟩ := hxy.out wr hbw0; have x0 := hcx 0 _ rfl; have x1 := hcx 1 _ rfl; have x2 := hcx 2 _ rfl; have x3 := hcx 3 _ rfl; simp only [Nat.add_zero] at x0; dsimp only at x0 x1 x2 x3; clear hcx
        go_wp2_with (first
          | (at_builtin; refine wpList_append_own _ rfl _ _ 151 rfl (w.heap.size + 1 + 1 + 1) 9 i0 (.string { data := #[] }) 1 16 Try.underlying151 hi hz0 hz1 hz2 rfl (by decide) _ _ _ rfl (hown2.out.alloc _) ⟨w2.heap.size, 0, none⟩ 1 1 [.string xc] rfl rfl ?c1 ?c2 ?c3 ?c4 ?c5 ?_)
          | (go_at_call 112; refine (hHx.out _ (Below.refl _ _)).mono ?_; rintro e w2 ⟨rfl, hb⟩; have hb2 := hb; replace hbw := via hbw hb; replace B0 := bk_keep hb B0; replace B1 := bk_keep hb B1; replace B2 := bk_keep hb B2; replace C0 := bk4 B0; replace C1 := bk2 B1; replace C2 := bk2 B2; have hown2 := Lib.hid (owns_below hown'.out hb); have hs2 := hb.size; obtain ⟨hbb, hcx⟩ := hxy.out w2 hbw; have x0 := hcx 0 _ rfl; have x1 := hcx 1 _ rfl; have x2 := hcx 2 _ rfl; have x3 := hcx 3 _ rfl; simp only [Nat.add_zero] at x0; dsimp only at x0 x1 x2 x3; clear hcx))
        case c1 => exact cell_one_new _ _ _
        case c2 => intro u hu; simp at hu; subst hu; rfl
        case c3 => unfold maxLen; omega
        case c4 => omega
        case c5 => simp; omega
        intro v' w3 hown3 hg3 _
        have hlt3 := hown2.out.lt
        have hs2' : w.heap.size + 1 + 1 < w2.heap.size := bk_size B2
        have hbel : Below w.heap.size w w3 := (hbw.alloc hbw.size _).grown hg3 (by simp; omega) (fun r e => by have := (hlt3 r e).1; omega)
        have keep : ∀ b ob, b < w.heap.size + 1 + 1 + 1 → w2.heap[b]? = some ob → w3.heap[b]? = some ob := fun b ob hb h => (hg3.block b (by simp; omega) (fun e => by have := (hlt3 b e.symm).1; omega)).trans (bk_alloc h _)
        have N0 := keep _ _ (by omega) B0
        have N1 := keep _ _ (by omega) B1
        have N2 := keep _ _ (by omega) B2
        have hown4 : w3.ownsRow (w.heap.size + 1 + 1 + 1) 9 1 v' (D ++ [xc]).length ((D ++ [xc]).flatMap Txt.cs) := by
          simpa [List.flatMap_append, Txt.cs] using hown3
        have hown5 := Lib.hid hown4
        clear hown3 hown4 hg3 hlt3 keep C0 C1 C2 B0 B1 B2 hbw hbw0 x0 x1 x2 x3 hbb hb hb2 hown2 hown'
        go_wp2_with fail
        apply region_store w 12 13 9 (.cells #[.int .i64 0, .int .i64 0] 24 (0, 0)) (.cells #[.int .i64 V1, .int .i64 V2] 24 (0, 0))
        case hm => kernel_rfl
        case hB => kernel_rfl
        case hB' => kernel_rfl
        case hS => kernel_rfl
        case hN => kernel_rfl
        case hw => exact hbel
        case hal => intro o ho; simp at ho; subst ho; intro a x; kernel_rfl
        case hq =>
          intro u hu hgc hbx hbX
          have D0 := bk4 (bk_keep hu N0)
          obtain ⟨hbb, hcx⟩ := hxy.out u (via hbel hu); have x0 := hcx 0 _ rfl; have x1 := hcx 1 _ rfl; have x2 := hcx 2 _ rfl; have x3 := hcx 3 _ rfl; simp only [Nat.add_zero] at x0; dsimp only at x0 x1 x2 x3; clear hcx
          simp only [dummyAt, struck, Nat.reduceAdd, Nat.reduceBEq, Nat.zero_add, Bool.or_false, Bool.or_true, Bool.false_or, Bool.true_or, Bool.false_eq_true, if_true, if_false, Bool.or_self]
          repeat (go_big_quiet_step ((go_at_call 59; exact Grew.call (hVx.out _ (hbx.out _)))))
          exact wpQuiet_nil rfl
        case hst =>
          intro o ho B x hx hB hz
          simp only [List.getElem?_cons_succ, List.getElem?_cons_zero, Option.some.injEq] at ho
          subst ho
          exact ⟨_, run_store2 rfl rfl rfl (by kernel_rfl) (by kernel_rfl) (by kernel_rfl) hz, below_in (below_in hx hB _) hB _, bk_here (bk_here hz _ rfl) _ rfl⟩
        case h =>
        intro B u hB hu hbu E1
        simp only [Act.put, List.setIfInBounds_toArray, List.set_cons_succ, List.set_cons_zero]
        have B0 := bk_keep hu N0
        have B1 := bk_keep hu N1
        have B2 := bk_keep hu N2
        have C0 := bk4 B0
        have C1 := bk2 B1
        have C2 := bk2 B2
        have CE := bk2 E1
        have hneB : w.heap.size + 1 + 1 < B := Nat.lt_of_lt_of_le (bk_size N2) hB
        have hown6 := Lib.hid (owns_below hown5.out hu)
        clear hown5 N0 N1 N2 hu hbel
        by_cases hz : V3 = 0
        · have hadd' := Lib.hid (hadd.out hz)
          subst hz
          clear hadd hbad hstop
          go_wp2
          go_roundw
          case rel => exact ⟨k + 1, by omega, by go_num, D ++ [xc], owns_set (owns_set hown6.out (by dsimp only; omega) _) (by dsimp only; omega) _, (fun s => by rw [List.any_append, hD.out, hsn.out]; simp), by simp; omega, by unfold Hid; rw [hadd'.out], by go_grown, bk_set (bk_set B0 (by dsimp only; omega) _) (by dsimp only; omega) _, bk_set (bk_set B1 (by dsimp only; omega) _) (by dsimp only; omega) _, by rw [hadd'.out]; exact bk_here (bk_here B2 _ rfl) _ rfl⟩
          case measure => simp [intOf]; omega
        · have hb1 := hbad.out hz
          have hb2 := hstop.out (by rw [hb1]; exact hz)
          rw [hT'.out, hb1] at hb2
          simp only [Prod.mk.injEq] at hb2
          obtain ⟨⟨rfl, rfl⟩, rfl⟩ := hb2
          have z2 : (T3 != 0) = true := by simpa using hz
          clear hadd hbad hstop hb1 hz
          go_wp2
          refine bodyPost_ret (v := .tuple #[.agg #[.int .i64 0, .int .i64 0], .int .i64 T3]) ?_ rfl ⟨rfl, by go_grown⟩
          simp [results, Try.results60, go_sem, C1]
      · have e1 := Lib.hid (totF_seen (l0 := l0) (l1 := l1) (ms := ms) (day := day) hx hq)
        have e2 := Lib.hid (seen_old hx hq)
        obtain ⟨xc, xd, xl, xh⟩ := x
        dsimp only at hHx
        clear hq hx hxy'
        have hbw0 := hbw
        obtain ⟨hbb, hcx⟩ := hxy.out wr hbw0; have x0 := hcx 0 _ rfl; have x1 := hcx 1 _ rfl; have x2 := hcx 2 _ rfl; have x3 := hcx 3 _ rfl; simp only [Nat.add_zero] at x0; dsimp only at x0 x1 x2 x3; clear hcx
        go_wp2_with (first | (go_at_call 112; refine (hHx.out _ (Below.refl _ _)).mono ?_; rintro e w2 ⟨rfl, hb⟩; have hb2 := hb; replace hbw := via hbw hb; replace B0 := bk_keep hb B0; replace B1 := bk_keep hb B1; replace B2 := bk_keep hb B2; replace C0 := bk4 B0; replace C1 := bk2 B1; replace C2 := bk2 B2; have hown2 := Lib.hid (owns_below hown'.out hb); have hs2 := hb.size; obtain ⟨hbb, hcx⟩ := hxy.out w2 hbw; have x0 := hcx 0 _ rfl; have x1 := hcx 1 _ rfl; have x2 := hcx 2 _ rfl; have x3 := hcx 3 _ rfl; simp only [Nat.add_zero] at x0; dsimp only at x0 x1 x2 x3; clear hcx))
        go_roundw
        case rel => exact ⟨k + 1, by omega, by go_num, D, hown2.out, (fun s => by rw [hD.out, e2.out]), by omega, by unfold Hid; rw [e1.out]; exact h0.out, hbw, B0, B1, by rw [e1.out]; exact B2⟩
        case measure => simp [intOf]; omega
    · have hkk : k = rs.length := by omega
      have hkn : ¬ (k : Int) < (rs.length : Int) := by omega
      rw [hkk, hT'.out] at B2 C2 h0
      have h00 : T3 = 0 := h0.out
      subst h00
      dsimp only at B2 C2
      clear hown hD hatD h0
      go_wp2
      refine bodyPost_ret (v := .tuple #[.agg #[.int .i64 T1, .int .i64 T2], .int .i64 0]) ?_ rfl ⟨rfl, by go_grown⟩
      simp [results, Try.results60, go_sem, C1]
end Go.Proofs

namespace Go.Proofs
open Go.RowKit

def totEE (l0 l1 : Int) (rs : List Rd) (ms : List Mv) (day : Int) : Int := firstE [(checkB l0 l1 rs ms).2, unl (within day 0 100000) 2, unl (decide (0 < (rs.length : Int))) 12]
def totVV (l0 l1 : Int) (rs : List Rd) (ms : List Mv) (day : Int) : (Int × Int) × Int := if totEE l0 l1 rs ms day = 0 then totF l0 l1 rs ms day rs.length else ((0, 0), totEE l0 l1 rs ms day)
set_option maxRecDepth 100000 in
set_option maxHeartbeats 1000000 in
theorem totalAt_any (l0 l1 : Int) (A A2 : Option Addr) (rs : List Rd) (ms : List Mv) (c c2 : Nat) (day : Int) (w : World) (hcap : rs.length ≤ c)
    (hs : ∀ x ∈ rs, x.c.size ≤ 9223372036854775807) (hat : At 4 Rd.cs w A rs)
    (hs2 : ∀ x ∈ ms, x.f.size ≤ 9223372036854775807 ∧ x.t.size ≤ 9223372036854775807) (hat2 : At 4 Mv.cs w A2 ms) :
    Calls Try.prog 56 #[.agg #[.int .i64 l0, .int .i64 l1, .slice A rs.length c, .slice A2 ms.length c2], .int .i64 day] w fun e w' =>
      e = .returned (.tuple #[.agg #[.int .i64 (totVV l0 l1 rs ms day).1.1, .int .i64 (totVV l0 l1 rs ms day).1.2], .int .i64 (totVV l0 l1 rs ms day).2]) ∧ Below w.heap.size w w' := by
  have hO := Lib.hid fun W hb => openBook_any l0 l1 A A2 rs ms c c2 W hs (At.below hat hb) hs2 (At.below hat2 hb)
  have hat' := Lib.hid hat
  have hVol := Lib.hid fun (hok : Right l0 l1 rs ms) (h0 : 0 ≤ day) (h1 : day ≤ 100000) cask W (hb : Below w.heap.size w W) => at_any l0 l1 A A2 rs ms c c2 cask day W hok (hat.below hb) (hat2.below hb) h0 h1
  clear hat hat2 hs hs2
  obtain ⟨p, hp⟩ : ∃ p, decide (0 < (rs.length : Int)) = p := ⟨_, rfl⟩
  have hp2 : decide (0 < rs.length) = p := by rw [← hp]; simp
  unfold totVV totEE
  rw [hp]
  by_cases hz : firstE [(checkB l0 l1 rs ms).2, unl (within day 0 100000) 2, unl p 12] = 0
  case neg =>
    rw [if_neg hz]
    have z2 : (firstE [(checkB l0 l1 rs ms).2, unl (within day 0 100000) 2, unl p 12] != 0) = true := by simpa using hz
    clear hVol hz
    generalize (checkB l0 l1 rs ms).2 = E at *
    go_enter Try.func56, Try.ntmps56
    go_wp2_with (first | (go_at_call 84; refine (hO.out _ ?_).mono ?_; (· go_grown); rintro e w1 ⟨rfl, hb⟩; have hbw := via (by go_grown : Below w.heap.size w _) hb; have hsw := hbw.size; have B0 : w1.heap[w.heap.size]? = some (.cells #[.int .i64 l0, .int .i64 l1, .slice A rs.length c, .slice A2 ms.length c2] 49 (0, 0)) := bk_keep hb (by (repeat (first | assumption | (refine bk_new _ _ ?_; (simp; done)) | refine bk_drew ?_ | refine bk_alloc ?_ _ | refine bk_set ?_ (by simp <;> omega) _))); have B1 : w1.heap[w.heap.size + 1]? = some (.cells #[.int .i64 0, .int .i64 0] 24 (0, 0)) := bk_keep hb (by (repeat (first | assumption | (refine bk_new _ _ ?_; (simp; done)) | refine bk_drew ?_ | refine bk_alloc ?_ _ | refine bk_set ?_ (by simp <;> omega) _)))))
    refine wp_world ?_
    intro W hW_W
    have hb_W : Below w.heap.size w W := by rw [hW_W]; go_grown
    have N0 : W.heap[w.heap.size]? = some (.cells #[.int .i64 l0, .int .i64 l1, .slice A rs.length c, .slice A2 ms.length c2] 49 (0, 0)) := by rw [hW_W]; exact bk_alloc B0 _
    have N1 : W.heap[w.heap.size + 1]? = some (.cells #[.int .i64 0, .int .i64 0] 24 (0, 0)) := by rw [hW_W]; exact bk_alloc B1 _
    have N3 : W.heap[w1.heap.size]? = some (.cells #[.int .i64 l0, .int .i64 l1, .slice A rs.length c, .slice A2 ms.length c2] 131 (0, 0)) := by rw [hW_W]; exact bk_new _ _ rfl
    obtain ⟨X, hX⟩ : ∃ X, w1.heap.size = X := ⟨_, rfl⟩
    rw [hX] at N3 ⊢
    have hX1 : w.heap.size + 1 < X := by rw [← hX]; exact bk_size B1
    clear hW_W hX B0 B1 hb hbw hsw
    have C0 := bk4 N0
    refine region_in w 8 (by kernel_rfl) (by kernel_rfl) (by go_grown) ?_
    intro hgc hbx
    simp only [List.take_succ_cons, List.take_zero, List.drop_succ_cons, List.drop_zero]
    repeat (go_big_quiet_step (first | (go_at_call 86; exact Grew.call_same (dayErr_any _ _)) | (go_at_call 71; exact Grew.call_same (unless_any _ _ _))))
    refine wpQuiet_nil ?_
    intro wa hb hbw hsw
    clear hgc hbx
    replace N0 := bk_keep hb N0
    replace N1 := bk_keep hb N1
    replace N3 := bk_keep hb N3
    replace C0 := bk4 N0
    have C1 := bk2 N1
    have C3 := bk4 N3
    clear hb hb_W
    go_wp2_with (go_at_call 70; refine (first3n _ _ _ _ ?_).mono ?_; (· simp); rintro e w' ⟨rfl, rfl⟩)
    refine bodyPost_ret (v := .tuple #[.agg #[.int .i64 0, .int .i64 0], .int .i64 (firstE [E, unl (within day 0 100000) 2, unl p 12])]) ?_ rfl ⟨rfl, by go_grown⟩
    simp [results, Try.results56, go_sem, C1]
  rw [if_pos hz]
  have h3 := firstE3_zero hz
  have hok := right_of h3.1
  obtain ⟨hd0, hd1⟩ := within_true (unl_zero (by decide) h3.2.1)
  have z2 : (firstE [(checkB l0 l1 rs ms).2, unl (within day 0 100000) 2, unl p 12] != 0) = false := by rw [hz]; rfl
  replace hVol := Lib.hid (hVol.out hok hd0 hd1)
  have hrn := hok.rn
  have hbt := Lib.hid fun k => totF_bd hok hd0 hd1 k
  have hbv := Lib.hid fun cask => atV_bd (cask := cask) hok hd0 hd1
  clear hz h3 hok
  obtain ⟨T, hT⟩ : ∃ T, totF l0 l1 rs ms day rs.length = T := ⟨_, rfl⟩
  rw [hT]
  have hT' := Lib.hid hT
  clear hT
  obtain ⟨⟨T1, T2⟩, T3⟩ := T
  dsimp only
  generalize (checkB l0 l1 rs ms).2 = E at *
  go_enter Try.func56, Try.ntmps56
  go_wp2_with (first | (go_at_call 84; refine (hO.out _ ?_).mono ?_; (· go_grown); rintro e w1 ⟨rfl, hb⟩; have hbw := via (by go_grown : Below w.heap.size w _) hb; have hsw := hbw.size; have B0 : w1.heap[w.heap.size]? = some (.cells #[.int .i64 l0, .int .i64 l1, .slice A rs.length c, .slice A2 ms.length c2] 49 (0, 0)) := bk_keep hb (by (repeat (first | assumption | (refine bk_new _ _ ?_; (simp; done)) | refine bk_drew ?_ | refine bk_alloc ?_ _ | refine bk_set ?_ (by simp <;> omega) _))); have B1 : w1.heap[w.heap.size + 1]? = some (.cells #[.int .i64 0, .int .i64 0] 24 (0, 0)) := bk_keep hb (by (repeat (first | assumption | (refine bk_new _ _ ?_; (simp; done)) | refine bk_drew ?_ | refine bk_alloc ?_ _ | refine bk_set ?_ (by simp <;> omega) _)))))
  refine wp_world ?_
  intro W hW_W
  have hb_W : Below w.heap.size w W := by rw [hW_W]; go_grown
  have N0 : W.heap[w.heap.size]? = some (.cells #[.int .i64 l0, .int .i64 l1, .slice A rs.length c, .slice A2 ms.length c2] 49 (0, 0)) := by rw [hW_W]; exact bk_alloc B0 _
  have N1 : W.heap[w.heap.size + 1]? = some (.cells #[.int .i64 0, .int .i64 0] 24 (0, 0)) := by rw [hW_W]; exact bk_alloc B1 _
  have N3 : W.heap[w1.heap.size]? = some (.cells #[.int .i64 l0, .int .i64 l1, .slice A rs.length c, .slice A2 ms.length c2] 131 (0, 0)) := by rw [hW_W]; exact bk_new _ _ rfl
  obtain ⟨X, hX⟩ : ∃ X, w1.heap.size = X := ⟨_, rfl⟩
  rw [hX] at N3 ⊢
  have hX1 : w.heap.size + 1 < X := by rw [← hX]; exact bk_size B1
  clear hW_W hX B0 B1 hb hbw hsw
  have C0 := bk4 N0
  refine region_in w 8 (by kernel_rfl) (by kernel_rfl) (by go_grown) ?_
  intro hgc hbx
  simp only [List.take_succ_cons, List.take_zero, List.drop_succ_cons, List.drop_zero]
  repeat (go_big_quiet_step (first | (go_at_call 86; exact Grew.call_same (dayErr_any _ _)) | (go_at_call 71; exact Grew.call_same (unless_any _ _ _))))
  refine wpQuiet_nil ?_
  intro wa hb hbw hsw
  clear hgc hbx
  replace N0 := bk_keep hb N0
  replace N1 := bk_keep hb N1
  replace N3 := bk_keep hb N3
  replace C0 := bk4 N0
  have C1 := bk2 N1
  have C3 := bk4 N3
  clear hb hb_W
  go_wp2_with (go_at_call 70; refine (first3n _ _ _ _ ?_).mono ?_; (· simp); rintro e w' ⟨rfl, rfl⟩)
  refine wp_world ?_
  intro Z hW_Z
  have hb_Z : Below w.heap.size w Z := by rw [hW_Z]; go_grown
  obtain ⟨Y, hY⟩ : ∃ Y, wa.heap.size + 1 = Y := ⟨_, rfl⟩
  have M0 : Z.heap[w.heap.size]? = some (.cells #[.int .i64 l0, .int .i64 l1, .slice A rs.length c, .slice A2 ms.length c2] 49 (0, 0)) := by rw [hW_Z]; exact bk_alloc (bk_alloc N0 _) _
  have M1 : Z.heap[w.heap.size + 1]? = some (.cells #[.int .i64 0, .int .i64 0] 24 (0, 0)) := by rw [hW_Z]; exact bk_alloc (bk_alloc N1 _) _
  have M3 : Z.heap[X]? = some (.cells #[.int .i64 l0, .int .i64 l1, .slice A rs.length c, .slice A2 ms.length c2] 131 (0, 0)) := by rw [hW_Z]; exact bk_alloc (bk_alloc N3 _) _
  have MS : Z.heap[Y]? = some (.cells #[.int .i64 0, .int .i64 0] 24 (0, 0)) := by rw [hW_Z]; exact bk_new _ _ (by rw [← hY]; simp)
  have hXY : X < Y := by have := bk_size N3; omega
  rw [hY]
  clear hW_Z hY N0 N1 N3 C0 C1 C3 hbw hsw
  have C0 := bk4 M0
  go_wp2_with fail
  go_loopw [35] (fun i wr => ∃ k : Nat, k ≤ rs.length ∧ i = .int .i64 k ∧ Hid ((totF l0 l1 rs ms day k).2 = 0) ∧ Below w.heap.size w wr ∧ wr.heap[w.heap.size]? = some (.cells #[.int .i64 l0, .int .i64 l1, .slice A rs.length c, .slice A2 ms.length c2] 49 (0, 0)) ∧ wr.heap[w.heap.size + 1]? = some (.cells #[.int .i64 0, .int .i64 0] 24 (0, 0)) ∧ wr.heap[X]? = some (.cells #[.int .i64 l0, .int .i64 l1, .slice A rs.length c, .slice A2 ms.length c2] 131 (0, 0)) ∧ wr.heap[Y]? = some (.cells #[.int .i64 (totF l0 l1 rs ms day k).1.1, .int .i64 (totF l0 l1 rs ms day k).1.2] 24 (0, 0))) (fun i _ => rs.length - (intOf i).toNat)
  case atStart => exact ⟨0, Nat.zero_le _, rfl, rfl, hb_Z, M0, M1, M3, MS⟩
  case round =>
    obtain ⟨k, hk, rfl, h0, hbw, B0, B1, B3, BS⟩ := hrel
    clear C0 M0 M1 M3 MS hb_Z
    have C0 := bk4 B0
    have C1 := bk2 B1
    have C3 := bk4 B3
    have CS := bk2 BS
    by_cases hlt : k < rs.length
    · obtain ⟨x, hx⟩ : ∃ x, rs[k]? = some x := ⟨_, List.getElem?_eq_getElem hlt⟩
      have hkI : (k : Int) < (rs.length : Int) := by omega
      have hkc : (k : Int) ≤ (c : Int) := by omega
      have hkc2 : k ≤ c := by omega
      obtain ⟨bb, o, rfl, hxy'⟩ := hat'.out.one' hx
      have hxy := Lib.hid hxy'
      have htk : (rs.take k).length = k := by simp; omega
      have hCF := Lib.hid fun xc xd xl xh B W (hb : Below w.heap.size w W) (hB : W.heap[B]? = some (.cells #[.string xc, .int .i64 xd, .int .i64 xl, .int .i64 xh] 73 (0, 0))) => containsFunc_any (some ⟨bb, o, none⟩) (rs.take k) c xc xd xl xh B W (by omega) ((hat'.out.below hb).take k) hB
      rw [htk] at hCF
      obtain ⟨q, hq⟩ : ∃ q, seen rs k x.c = q := ⟨_, rfl⟩
      obtain ⟨V, hV⟩ : ∃ V, atV l0 l1 rs ms x.c day = V := ⟨_, rfl⟩
      have hVx := Lib.hid fun W hb => hVol.out x.c W hb
      have hbv1 := hbv.out x.c
      have hbt1 := hbt.out k
      rw [hV] at hVx hbv1
      have hseen := Lib.hid fun (h : q = true) => totF_seen (l0 := l0) (l1 := l1) (ms := ms) (day := day) hx (hq.trans h)
      have hbad := Lib.hid fun (h : q = false) (h2 : V.2 ≠ 0) => totF_bad h0.out hx (hq.trans h) (by rw [hV]; exact h2)
      have hadd := Lib.hid fun (h : q = false) (h2 : V.2 = 0) => totF_add h0.out hx (hq.trans h) (by rw [hV]; exact h2)
      rw [hV] at hbad hadd
      have hCFx := Lib.hid fun B W hb (hB : W.heap[B]? = some (.cells #[.string x.c, .int .i64 x.d, .int .i64 x.lo, .int .i64 x.hi] 73 (0, 0))) => show Calls Try.prog 109 #[.slice (some ⟨bb, o, none⟩) k c, .func (.func 110) #[] #[.pointer (some ⟨B, 0, none⟩)]] W fun e w' => e = .returned (.bool q) ∧ Below W.heap.size W w' from by
        rw [← hq]
        exact hCF.out _ _ _ _ B W hb hB
      have hstop := Lib.hid fun (h : (totF l0 l1 rs ms day (k + 1)).2 ≠ 0) => show totF l0 l1 rs ms day rs.length = totF l0 l1 rs ms day (k + 1) from by
        have := totF_stop h (rs.length - (k + 1))
        rwa [show k + 1 + (rs.length - (k + 1)) = rs.length by omega] at this
      obtain ⟨S, hS⟩ : ∃ S, totF l0 l1 rs ms day k = S := ⟨_, rfl⟩
      rw [hS] at BS CS hbt1 hadd hseen
      obtain ⟨⟨S1, S2⟩, S3⟩ := S
      obtain ⟨⟨V1, V2⟩, V3⟩ := V
      obtain ⟨xc, xd, xl, xh⟩ := x
      dsimp only at hVx hbv1 hbad hadd BS CS hbt1 hCFx
      obtain ⟨v1a, v1b, v2a, v2b⟩ := hbv1
      obtain ⟨s1a, s1b, s2a, s2b⟩ := hbt1
      have h0S : S3 = 0 := by have := h0.out; rw [hS] at this; exact this
      clear hq hV hx hxy' hS hCF htk h0
      have hbw0 := hbw
      obtain ⟨hbb, hcx⟩ := hxy.out wr hbw0; have x0 := hcx 0 _ rfl; have x1 := hcx 1 _ rfl; have x2 := hcx 2 _ rfl; have x3 := hcx 3 _ rfl; simp only [Nat.add_zero] at x0; dsimp only at x0 x1 x2 x3; clear hcx
      cases q
      · clear hseen
        have hY0 : w.heap.size ≠ Y := by omega
        have hY1 : w.heap.size + 1 ≠ Y := by omega
        have hY3 : X ≠ Y := by omega
        by_cases hz : V3 = 0
        · have hadd' := Lib.hid (hadd.out rfl hz)
          subst hz
          clear hadd hbad hstop
          go_wp2_with (first | (go_at_call 109; refine (hCFx.out _ _ (by go_grown) (by exact bk_new _ _ rfl)).mono ?_; rintro e w2 ⟨rfl, hb⟩; have hbw := via (by go_grown : Below w.heap.size w _) hb; replace B0 := bk_keep hb (bk_alloc B0 _); replace B1 := bk_keep hb (bk_alloc B1 _); replace B3 := bk_keep hb (bk_alloc B3 _); replace BS := bk_keep hb (bk_alloc BS _); have BR := bk_keep hb (bk_new wr (.cells #[.string xc, .int .i64 xd, .int .i64 xl, .int .i64 xh] 73 (0, 0)) rfl); replace C0 := bk4 B0; replace C1 := bk2 B1; replace C3 := bk4 B3; replace CS := bk2 BS; have CR := bk4 BR) | (go_at_call 95; refine (hVx.out _ hbw).mono ?_; rintro e w3 ⟨rfl, hb⟩; have hbw3 := via hbw hb; replace B0 := bk_keep hb B0; replace B1 := bk_keep hb B1; replace B3 := bk_keep hb B3; replace BS := bk_keep hb BS; replace C0 := bk4 B0; replace C1 := bk2 B1; replace C3 := bk4 B3; replace CS := bk2 BS; have hs3 := hbw3.size))
          go_roundw
          case rel => exact ⟨k + 1, by omega, by go_num, by unfold Hid; rw [hadd'.out], by go_grown, bk_alloc (bk_set (bk_set B0 hY0 _) hY0 _) _, bk_alloc (bk_set (bk_set B1 hY1 _) hY1 _) _, bk_alloc (bk_set (bk_set B3 hY3 _) hY3 _) _, by rw [hadd'.out]; exact bk_alloc (bk_here (bk_here BS _ rfl) _ rfl) _⟩
          case measure => simp [intOf]; omega
        · have hb1 := hbad.out rfl hz
          have hb2 := hstop.out (by rw [hb1]; exact hz)
          rw [hT'.out, hb1] at hb2
          simp only [Prod.mk.injEq] at hb2
          obtain ⟨⟨rfl, rfl⟩, rfl⟩ := hb2
          have z3 : (T3 != 0) = true := by simpa using hz
          clear hadd hbad hstop hb1 hz
          go_wp2_with (first | (go_at_call 109; refine (hCFx.out _ _ (by go_grown) (by exact bk_new _ _ rfl)).mono ?_; rintro e w2 ⟨rfl, hb⟩; have hbw := via (by go_grown : Below w.heap.size w _) hb; replace B0 := bk_keep hb (bk_alloc B0 _); replace B1 := bk_keep hb (bk_alloc B1 _); replace B3 := bk_keep hb (bk_alloc B3 _); replace BS := bk_keep hb (bk_alloc BS _); have BR := bk_keep hb (bk_new wr (.cells #[.string xc, .int .i64 xd, .int .i64 xl, .int .i64 xh] 73 (0, 0)) rfl); replace C0 := bk4 B0; replace C1 := bk2 B1; replace C3 := bk4 B3; replace CS := bk2 BS; have CR := bk4 BR) | (go_at_call 95; refine (hVx.out _ hbw).mono ?_; rintro e w3 ⟨rfl, hb⟩; have hbw3 := via hbw hb; replace B0 := bk_keep hb B0; replace B1 := bk_keep hb B1; replace B3 := bk_keep hb B3; replace BS := bk_keep hb BS; replace C0 := bk4 B0; replace C1 := bk2 B1; replace C3 := bk4 B3; replace CS := bk2 BS; have hs3 := hbw3.size))
          refine bodyPost_ret (v := .tuple #[.agg #[.int .i64 0, .int .i64 0], .int .i64 T3]) ?_ rfl ⟨rfl, by go_grown⟩
          simp [results, Try.results56, go_sem, C1]
      · have e1 := hseen.out rfl
        clear hseen hbad hadd hstop
        go_wp2_with (first | (go_at_call 109; refine (hCFx.out _ _ (by go_grown) (by exact bk_new _ _ rfl)).mono ?_; rintro e w2 ⟨rfl, hb⟩; have hbw := via (by go_grown : Below w.heap.size w _) hb; replace B0 := bk_keep hb (bk_alloc B0 _); replace B1 := bk_keep hb (bk_alloc B1 _); replace B3 := bk_keep hb (bk_alloc B3 _); replace BS := bk_keep hb (bk_alloc BS _); have BR := bk_keep hb (bk_new wr (.cells #[.string xc, .int .i64 xd, .int .i64 xl, .int .i64 xh] 73 (0, 0)) rfl); replace C0 := bk4 B0; replace C1 := bk2 B1; replace C3 := bk4 B3; replace CS := bk2 BS; have CR := bk4 BR))
        go_roundw
        case rel => exact ⟨k + 1, by omega, by go_num, by unfold Hid; rw [e1]; exact h0S, hbw, B0, B1, B3, by rw [e1]; exact BS⟩
        case measure => simp [intOf]; omega
    · have hkk : k = rs.length := by omega
      have hkn : ¬ (k : Int) < (rs.length : Int) := by omega
      rw [hkk, hT'.out] at BS CS h0
      have h00 : T3 = 0 := h0.out
      subst h00
      dsimp only at BS CS
      clear h0
      go_wp2
      refine bodyPost_ret (v := .tuple #[.agg #[.int .i64 T1, .int .i64 T2], .int .i64 0]) ?_ rfl ⟨rfl, by go_grown⟩
      simp [results, Try.results56, go_sem, C1]
end Go.Proofs

namespace Go.Proofs
open Go.RowKit

/-- 'append([]T{}, xs...)': the slice that it is appended to has no room: nothing is asked of its block. -/
theorem append_copyC {P : Program} {α : Type} {sz : Nat} {cs : α → List Value} (hsz : ∀ y, (cs y).length = sz) (hp : 0 < sz) {x : World} {t ty e : TypeId} {i : TypeInfo} {z : Value} {bytes : Nat}
    (ht : P.underlying t = some (.slice e)) (hi : P.info? e = some i) (hz : i.zero = some z) (hs : i.size = sz) (hzs : z.cells.size = sz) (hby : i.bytes = bytes) (hbb : bytes ≤ 1000)
    (b : Nat) (N : Nat → Prop) (hb : ¬ N b) (hB : ∀ n, N n → n < x.heap.size) {l : List α} {A : Option Addr} (c : Nat) (hat : At sz cs x A l) (hl : l.length ≤ 1000) :
    ∃ v' x', (Builtin.append_ #[t, t] ty #[.slice (some ⟨b, 0, none⟩) 0 0, .slice A l.length c]).run P x = .ok v' x' ∧ Below x.heap.size x x' ∧
      ∃ A' c', v' = .slice A' l.length c' ∧ (At sz cs x' A' l ∧ l.length ≤ c') ∧ ∀ p, A' = some p → ¬ N p.block := by
  cases l with
  | nil =>
    refine ⟨.slice (some ⟨b, 0, none⟩) 0 0, x, ?_, Below.refl _ _, _, _, rfl, ⟨(fun k y hy => by simp at hy), Nat.le_refl _⟩, (fun p hp' => by cases hp'; exact hb)⟩
    cases A with
    | none => simp [Builtin.append_, run_underlying ht, sizeOf, typeInfo, hi, Builtin.lenOf, Builtin.firstCells, loadCells, loadCellsFrom, storeCells]
    | some a => simp [Builtin.append_, run_underlying ht, sizeOf, typeInfo, hi, Builtin.lenOf, Builtin.firstCells, loadCells, loadCellsFrom, storeCells]
  | cons y l' =>
    obtain ⟨l, hl'⟩ : ∃ l, y :: l' = l := ⟨_, rfl⟩
    have hne : 0 < l.length := by rw [← hl']; simp
    rw [hl'] at hat hl ⊢
    obtain ⟨a, rfl⟩ : ∃ a, A = some a := by
      obtain ⟨b', o', h, -⟩ := hat 0 y (by rw [← hl']; rfl)
      exact ⟨_, h⟩
    have hfl := flatB_len cs sz hsz l
    have hnews := atB_news hsz hat
    have hbt : l.length * bytes ≤ 1000 * 1000 := Nat.mul_le_mul hl hbb
    subst hs
    subst hby
    have hr := run_append_grow (P := P) (w := x) t ty e i z ht hi hz ⟨b, 0, none⟩ 0 0 [] (by simp) (by simp) a l.length c (l.flatMap cs) hfl hnews (by omega) (by omega) (growslice_fits (by omega) (by rw [Nat.zero_add]; omega))
    simp only [Nat.zero_add] at hr
    have hge := grownCap_ge x l.length 0 e
    have hcm : grownCap x l.length 0 e ≤ maxLen := grownCap_le_maxLen x l.length 0 e (by unfold maxLen; omega)
    have hb' : Below x.heap.size x (x.drew.alloc (.cells (([] : List Value).toArray ++ (l.flatMap cs).toArray ++ Builtin.zeroCells z.cells (grownCap x l.length 0 e - l.length)) e)) := ((Below.refl _ x).drew).alloc (by simp) _
    have hown : (x.drew.alloc (.cells (([] : List Value).toArray ++ (l.flatMap cs).toArray ++ Builtin.zeroCells z.cells (grownCap x l.length 0 e - l.length)) e)).ownsRow x.heap.size e i.size (.slice (some ⟨x.heap.size, 0, none⟩) l.length (grownCap x l.length 0 e)) l.length (l.flatMap cs) := by
      refine ⟨hfl, .inr ⟨x.heap.size, _, _, rfl, Nat.le_refl _, heap_alloc_new x.drew _, hge, hcm, ?_, ?_⟩⟩
      · simp only [Array.size_append, List.size_toArray, size_zeroCells, hzs, hfl, List.length_nil, Nat.zero_add, ← Nat.add_mul]
        congr 1
        omega
      · simp only [Array.toList_append, List.nil_append]
        rw [← hfl]
        exact List.take_left
    obtain ⟨A', c', e', h⟩ := at_of_owns (cs := cs) (sz := i.size) hsz hown
    have hcc : l.length ≤ c' := by
      have e2 := e'
      simp only [Value.slice.injEq] at e2
      rw [← e2.2.2]
      exact hge
    refine ⟨_, _, hr, hb', A', c', e', ⟨h, hcc⟩, fun p hp' => ?_⟩
    subst hp'
    simp only [Value.slice.injEq, Option.some.injEq] at e'
    obtain ⟨rfl, -, -⟩ := e'
    intro hN
    have := hB _ hN
    dsimp only at this
    omega
end Go.Proofs

namespace Go.Proofs
open Go.RowKit

/-- A slice that reads as rows, in a block other than B. -/
def SlC {α : Type} (cs : α → List Value) (B : Nat) (l : List α) (v : Value) (x : World) : Prop := ∃ A c, v = .slice A l.length c ∧ (At 4 cs x A l ∧ l.length ≤ c) ∧ (0 < l.length → ∀ p, A = some p → ¬ (p.block = B ∨ p.block = B + 1))
theorem SlC.keep {α : Type} {cs : α → List Value} {B : Nat} {l : List α} {v : Value} {x x' : World} (h : SlC cs B l v x) (hs : x.heap.size ≤ x'.heap.size) (hh : ∀ k, k < x.heap.size → k ≠ B → x'.heap[k]? = x.heap[k]?) : SlC cs B l v x' := by
  obtain ⟨A, c, rfl, ⟨h1, h0⟩, h2⟩ := h
  refine ⟨A, c, rfl, ⟨fun k y hy => ?_, h0⟩, h2⟩
  obtain ⟨b, o, hA, hb, hc⟩ := h1 k y hy
  refine ⟨b, o, hA, by omega, fun j v hv => ?_⟩
  rw [← hc j v hv]
  exact World.cell?_of_block (a := ⟨b, o + k * 4 + j, none⟩) (hh b hb (fun e => h2 (by have := (List.getElem?_eq_some_iff.1 hy).1; omega) _ hA (.inl e)))
theorem SlC.at4 {α : Type} {cs : α → List Value} {B : Nat} {A : Option Addr} {l : List α} {x : World} {u0 u1 u2 u3 : Value} (h : At 4 cs x A l) (hn : 0 < l.length → ∀ p, A = some p → ¬ (p.block = B ∨ p.block = B + 1)) :
    At 4 cs ((((x.setCell ⟨B + 1, 0, none⟩ u0).setCell ⟨B + 1, 1, none⟩ u1).setCell ⟨B + 1, 2, none⟩ u2).setCell ⟨B + 1, 3, none⟩ u3) A l := by
  cases l with
  | nil => exact fun k y hy => by simp at hy
  | cons y l' =>
    have := fun p hp => hn (by simp) p hp
    repeat' refine At.setB ?_ _ (fun p hp => by have := this p hp; dsimp only; omega)
    exact h
def CopyJC (l0 l1 : Int) (rs : List Rd) (ms : List Mv) (w x : World) : Prop :=
  Below w.heap.size w x ∧ w.heap.size + 1 < x.heap.size ∧ x.heap[w.heap.size + 1]? = some Zb ∧
  ∃ v2 v3, x.heap[w.heap.size]? = some (.cells #[.int .i64 l0, .int .i64 l1, v2, v3] 49 (0, 0)) ∧ SlC Rd.cs w.heap.size rs v2 x ∧ SlC Mv.cs w.heap.size ms v3 x
def CopyFC (rs : List Rd) (ms : List Mv) (B : Nat) (s : Nat) (v : Value) (x : World) : Prop :=
  if s = 3 ∨ s = 7 then ∃ b, v = .slice (some ⟨b, 0, none⟩) 0 0 ∧ ¬ (b = B ∨ b = B + 1)
  else if s = 4 ∨ s = 11 then v = .pointer (some ⟨B, 2, none⟩)
  else if s = 8 ∨ s = 12 then v = .pointer (some ⟨B, 3, none⟩)
  else if s = 5 ∨ s = 6 then SlC Rd.cs B rs v x
  else if s = 9 ∨ s = 10 then SlC Mv.cs B ms v x
  else True
theorem CopyFC.keep {rs : List Rd} {ms : List Mv} {B s : Nat} {v : Value} {x x' : World} (h : CopyFC rs ms B s v x) (g : Gr B x x') : CopyFC rs ms B s v x' := by
  unfold CopyFC at *
  split
  · rw [if_pos (by assumption)] at h; exact h
  rw [if_neg (by assumption)] at h
  split
  · rw [if_pos (by assumption)] at h; exact h
  rw [if_neg (by assumption)] at h
  split
  · rw [if_pos (by assumption)] at h; exact h
  rw [if_neg (by assumption)] at h
  split
  · rw [if_pos (by assumption)] at h; exact h.keep g.1 g.2
  rw [if_neg (by assumption)] at h
  split
  · rw [if_pos (by assumption)] at h; exact h.keep g.1 g.2
  · trivial
theorem CopyJC.below {l0 l1 : Int} {rs : List Rd} {ms : List Mv} {w x x' : World} (h : CopyJC l0 l1 rs ms w x) (hb : Below x.heap.size x x') : CopyJC l0 l1 rs ms w x' := by
  obtain ⟨h1, h2, h3, v2, v3, h4, h5, h6⟩ := h
  have g : Gr w.heap.size x x' := .of_below hb
  exact ⟨via h1 hb, by have := hb.size; omega, bk_keep hb h3, v2, v3, bk_keep hb h4, h5.keep g.1 g.2, h6.keep g.1 g.2⟩
theorem CopyJC.set2 {l0 l1 : Int} {rs : List Rd} {ms : List Mv} {w x : World} {v : Value} (h : CopyJC l0 l1 rs ms w x) (hv : SlC Rd.cs w.heap.size rs v x) : CopyJC l0 l1 rs ms w (x.setCell ⟨w.heap.size, 2, none⟩ v) := by
  obtain ⟨h1, h2, h3, v2, v3, h4, h5, h6⟩ := h
  have g := Gr.set w.heap.size 2 x v
  exact ⟨h1.setCell (Nat.le_refl _) v, by simpa using h2, bk_set h3 (by simp) v, v, v3, bk_here h4 v rfl, hv.keep g.1 g.2, h6.keep g.1 g.2⟩
theorem CopyJC.set3 {l0 l1 : Int} {rs : List Rd} {ms : List Mv} {w x : World} {v : Value} (h : CopyJC l0 l1 rs ms w x) (hv : SlC Mv.cs w.heap.size ms v x) : CopyJC l0 l1 rs ms w (x.setCell ⟨w.heap.size, 3, none⟩ v) := by
  obtain ⟨h1, h2, h3, v2, v3, h4, h5, h6⟩ := h
  have g := Gr.set w.heap.size 3 x v
  exact ⟨h1.setCell (Nat.le_refl _) v, by simpa using h2, bk_set h3 (by simp) v, v2, v, bk_here h4 v rfl, h5.keep g.1 g.2, hv.keep g.1 g.2⟩

def CopyGotC (l0 l1 : Int) (rs : List Rd) (ms : List Mv) (e : Ending) (w' : World) : Prop :=
  ∃ A c A2 c2, e = .returned (.agg #[.int .i64 l0, .int .i64 l1, .slice A rs.length c, .slice A2 ms.length c2]) ∧ (At 4 Rd.cs w' A rs ∧ rs.length ≤ c) ∧ (At 4 Mv.cs w' A2 ms ∧ ms.length ≤ c2)

set_option maxRecDepth 100000 in
set_option maxHeartbeats 2000000 in
theorem copyBook_cap (l0 l1 : Int) (A A2 : Option Addr) (rs : List Rd) (ms : List Mv) (c c2 : Nat) (w : World)
    (hn : rs.length ≤ 1000) (hm : ms.length ≤ 1000) (hcap : rs.length ≤ c) (hcap2 : ms.length ≤ c2) (hat : At 4 Rd.cs w A rs) (hat2 : At 4 Mv.cs w A2 ms) :
    Calls Try.prog 28 #[.agg #[.int .i64 l0, .int .i64 l1, .slice A rs.length c, .slice A2 ms.length c2]] w fun e w' =>
      CopyGotC l0 l1 rs ms e w' ∧ Below w.heap.size w w' := by
  have hne : ∀ {α : Type} {cs : α → List Value} {A : Option Addr} {l : List α}, At 4 cs w A l → 0 < l.length → ∀ p, A = some p → ¬ (p.block = w.heap.size ∨ p.block = w.heap.size + 1) := by
    intro α cs A l h hl p hp e
    cases l with
    | nil => simp at hl
    | cons y l' =>
      obtain ⟨b, o, hA, hb, -⟩ := h 0 y rfl
      rw [hp] at hA
      simp only [Option.some.injEq] at hA
      subst hA
      dsimp only at e
      omega
  have s1 : SlC Rd.cs w.heap.size rs (.slice A rs.length c) w := ⟨A, c, rfl, ⟨hat, hcap⟩, hne hat⟩
  have s2 : SlC Mv.cs w.heap.size ms (.slice A2 ms.length c2) w := ⟨A2, c2, rfl, ⟨hat2, hcap2⟩, hne hat2⟩
  obtain ⟨i1, z1, i11, i12, i13, i14, i15⟩ := info_of info73
  obtain ⟨i2, z2, i21, i22, i23, i24, i25⟩ := info_of info122
  have s1' := Lib.hid s1
  have s2' := Lib.hid s2
  have hI1 := Lib.hid fun x b N A c (hb : ¬ N b) (hB : ∀ n, N n → n < x.heap.size) (hat : At 4 Rd.cs x A rs) => append_copyC (P := Try.prog) (sz := 4) (cs := Rd.cs) (x := x) (t := 46) (ty := 46) (fun _ => rfl) (by decide) Try.underlying46 i11 i12 i13 i14 i15 (by decide) b N hb hB c hat hn
  have hI2 := Lib.hid fun x b N A c (hb : ¬ N b) (hB : ∀ n, N n → n < x.heap.size) (hat : At 4 Mv.cs x A ms) => append_copyC (P := Try.prog) (sz := 4) (cs := Mv.cs) (x := x) (t := 47) (ty := 47) (fun _ => rfl) (by decide) Try.underlying47 i21 i22 i23 i24 i25 (by decide) b N hb hB c hat hm
  clear s1 s2 hne hat hat2 i11 i12 i13 i14 i15 i21 i22 i23 i24 i25 hn hm
  go_enter Try.func28, Try.ntmps28
  go_wp2
  refine region_rg (CopyJC l0 l1 rs ms w) (Gr w.heap.size) (CopyFC rs ms w.heap.size) (by kernel_rfl) (by kernel_rfl) (by kernel_rfl) (by kernel_rfl) ?hJ (fun s v x x' _ g h => h.keep g) ?hstep ?hend
  case hJ =>
    refine CopyJC.below (x := (w.alloc _).alloc _) ?_ (Below.drew (Below.refl _ _))
    have hk := Lib.hid fun k (hk : k < w.heap.size) (_ : k ≠ w.heap.size) => (Below.heap_alloc (w.alloc (.cells #[.int .i64 l0, .int .i64 l1, .slice A rs.length c, .slice A2 ms.length c2] 49)) (.cells #[.int .i64 0, .int .i64 0, .slice none 0 0, .slice none 0 0] 49) k (by simp; omega)).trans (Below.heap_alloc _ _ k hk)
    exact ⟨by go_grown, by simp, by unfold Zb; (repeat (first | assumption | (refine bk_new _ _ ?_; (simp; done)) | refine bk_drew ?_ | refine bk_alloc ?_ _ | refine bk_set ?_ (by simp <;> omega) _)), _, _, by (repeat (first | assumption | (refine bk_new _ _ ?_; (simp; done)) | refine bk_drew ?_ | refine bk_alloc ?_ _ | refine bk_set ?_ (by simp <;> omega) _)), s1'.out.keep (by simp; omega) hk.out, s2'.out.keep (by simp; omega) hk.out⟩
  case hstep => 
    intro o ho
    simp only [List.mem_cons, List.not_mem_nil, or_false] at ho
    rcases ho with rfl | rfl | rfl | rfl | rfl | rfl | rfl | rfl | rfl | rfl | rfl | rfl
    all_goals intro a x hJ hlook
    · refine wp_val (v := .slice (some ⟨x.heap.size, 0, none⟩) 0 0) (x' := x.alloc (.cells #[] 73)) (by kernel_rfl) ⟨hJ.below (new_below _ _), .of_below (new_below _ _), _, rfl, ?_⟩
      intro d hd
      simp at hd
      subst hd
      unfold CopyFC
      rw [if_pos (by decide)]
      exact ⟨x.heap.size, rfl, by have := hJ.2.1; omega⟩
    · simp [Oper.looksAt, Op.operands] at hlook
      refine wp_val (v := .pointer (some ⟨w.heap.size, 2, none⟩)) (x' := x) ?_ ⟨hJ, .refl _ _, _, rfl, ?_⟩
      · simp [execOp, go_sem, Act.eval, hlook]
      intro d hd
      simp at hd
      subst hd
      unfold CopyFC
      simp
    · simp [Oper.looksAt, Op.operands] at hlook
      obtain ⟨v, h4, hv⟩ := hlook
      unfold CopyFC at hv
      simp at hv
      subst hv
      obtain ⟨v2, v3, hB, hs2, hs3⟩ := hJ.2.2.2
      have C := bk4 hB
      refine wp_val (v := v2) (x' := x) ?_ ⟨hJ, .refl _ _, _, rfl, ?_⟩
      · simp [execOp, go_sem, Act.eval, h4, C]
      intro d hd
      simp at hd
      subst hd
      unfold CopyFC
      simpa using hs2
    · have h3 := hlook 3 (List.contains_iff_mem.1 (by kernel_rfl))
      have h5 := hlook 5 (List.contains_iff_mem.1 (by kernel_rfl))
      simp at h3 h5
      obtain ⟨u, e3, h3⟩ := h3
      obtain ⟨v, e5, h5⟩ := h5
      unfold CopyFC at h3 h5
      simp at h3 h5
      obtain ⟨b, rfl, hbn⟩ := h3
      obtain ⟨A', c', rfl, ⟨hat, -⟩, -⟩ := h5
      obtain ⟨v', x', hr, hb, A2', c2', e', hat2, hne⟩ := (hI1).out x b (fun n => n = w.heap.size ∨ n = w.heap.size + 1) A' c' (by rintro (h | h) <;> simp [h] at hbn) (by intro n hn; have := hJ.2.1; rcases hn with rfl | rfl <;> omega) hat
      refine wp_app (.tmp 3) (.tmp 5) 46 rfl (by simp [Act.eval, e3]) (by simp [Act.eval, e5]) hr ⟨hJ.below hb, .of_below hb, _, rfl, ?_⟩
      intro d hd
      simp at hd
      subst hd
      unfold CopyFC
      simp
      exact ⟨A2', c2', e', hat2, fun _ => hne⟩
    · refine wp_val (v := .slice (some ⟨x.heap.size, 0, none⟩) 0 0) (x' := x.alloc (.cells #[] 122)) (by kernel_rfl) ⟨hJ.below (new_below _ _), .of_below (new_below _ _), _, rfl, ?_⟩
      intro d hd
      simp at hd
      subst hd
      unfold CopyFC
      rw [if_pos (by decide)]
      exact ⟨x.heap.size, rfl, by have := hJ.2.1; omega⟩
    · simp [Oper.looksAt, Op.operands] at hlook
      refine wp_val (v := .pointer (some ⟨w.heap.size, 3, none⟩)) (x' := x) ?_ ⟨hJ, .refl _ _, _, rfl, ?_⟩
      · simp [execOp, go_sem, Act.eval, hlook]
      intro d hd
      simp at hd
      subst hd
      unfold CopyFC
      simp
    · simp [Oper.looksAt, Op.operands] at hlook
      obtain ⟨v, h4, hv⟩ := hlook
      unfold CopyFC at hv
      simp at hv
      subst hv
      obtain ⟨v2, v3, hB, hs2, hs3⟩ := hJ.2.2.2
      have C := bk4 hB
      refine wp_val (v := v3) (x' := x) ?_ ⟨hJ, .refl _ _, _, rfl, ?_⟩
      · simp [execOp, go_sem, Act.eval, h4, C]
      intro d hd
      simp at hd
      subst hd
      unfold CopyFC
      simpa using hs3
    · have h3 := hlook 7 (List.contains_iff_mem.1 (by kernel_rfl))
      have h5 := hlook 9 (List.contains_iff_mem.1 (by kernel_rfl))
      simp at h3 h5
      obtain ⟨u, e3, h3⟩ := h3
      obtain ⟨v, e5, h5⟩ := h5
      unfold CopyFC at h3 h5
      simp at h3 h5
      obtain ⟨b, rfl, hbn⟩ := h3
      obtain ⟨A', c', rfl, ⟨hat, -⟩, -⟩ := h5
      obtain ⟨v', x', hr, hb, A2', c2', e', hat2, hne⟩ := (hI2).out x b (fun n => n = w.heap.size ∨ n = w.heap.size + 1) A' c' (by rintro (h | h) <;> simp [h] at hbn) (by intro n hn; have := hJ.2.1; rcases hn with rfl | rfl <;> omega) hat
      refine wp_app (.tmp 7) (.tmp 9) 47 rfl (by simp [Act.eval, e3]) (by simp [Act.eval, e5]) hr ⟨hJ.below hb, .of_below hb, _, rfl, ?_⟩
      intro d hd
      simp at hd
      subst hd
      unfold CopyFC
      simp
      exact ⟨A2', c2', e', hat2, fun _ => hne⟩
    · simp [Oper.looksAt, Op.operands] at hlook
      refine wp_val (v := .pointer (some ⟨w.heap.size, 2, none⟩)) (x' := x) ?_ ⟨hJ, .refl _ _, _, rfl, ?_⟩
      · simp [execOp, go_sem, Act.eval, hlook]
      intro d hd
      simp at hd
      subst hd
      unfold CopyFC
      simp
    · have h3 := hlook 11 (List.contains_iff_mem.1 (by kernel_rfl))
      have h5 := hlook 6 (List.contains_iff_mem.1 (by kernel_rfl))
      simp at h3 h5
      obtain ⟨u, e3, h3⟩ := h3
      obtain ⟨v, e5, h5⟩ := h5
      unfold CopyFC at h3 h5
      simp at h3 h5
      subst h3
      have hv := h5
      obtain ⟨A', c', rfl, hat, -⟩ := h5
      obtain ⟨v2, v3, hB, hs2, hs3⟩ := hJ.2.2.2
      have C := bk4 hB
      refine wp_skp (x' := x.setCell ⟨w.heap.size, 2, none⟩ (.slice A' _ c')) ?_ ⟨hJ.set2 hv, .set _ _ _ _, _, rfl, fun d hd => by simp at hd⟩
      simp [execOp, go_sem, Act.eval, e3, e5, C]
    · simp [Oper.looksAt, Op.operands] at hlook
      refine wp_val (v := .pointer (some ⟨w.heap.size, 3, none⟩)) (x' := x) ?_ ⟨hJ, .refl _ _, _, rfl, ?_⟩
      · simp [execOp, go_sem, Act.eval, hlook]
      intro d hd
      simp at hd
      subst hd
      unfold CopyFC
      simp
    · have h3 := hlook 12 (List.contains_iff_mem.1 (by kernel_rfl))
      have h5 := hlook 10 (List.contains_iff_mem.1 (by kernel_rfl))
      simp at h3 h5
      obtain ⟨u, e3, h3⟩ := h3
      obtain ⟨v, e5, h5⟩ := h5
      unfold CopyFC at h3 h5
      simp at h3 h5
      subst h3
      have hv := h5
      obtain ⟨A', c', rfl, hat, -⟩ := h5
      obtain ⟨v2, v3, hB, hs2, hs3⟩ := hJ.2.2.2
      have C := bk4 hB
      refine wp_skp (x' := x.setCell ⟨w.heap.size, 3, none⟩ (.slice A' _ c')) ?_ ⟨hJ.set3 hv, .set _ _ _ _, _, rfl, fun d hd => by simp at hd⟩
      simp [execOp, go_sem, Act.eval, e3, e5, C]
  case hend =>
    intro vs x hJ hvs
    obtain ⟨h1, h2, h3, v2, v3, hB, hs2, hs3⟩ := hJ
    have C := bk4 hB
    have Z := bk4 (show x.heap[w.heap.size + 1]? = some (.cells #[.int .i64 0, .int .i64 0, .slice none 0 0, .slice none 0 0] 49 (0, 0)) from h3)
    clear hvs
    obtain ⟨A', c', rfl, a1, a2⟩ := hs2
    obtain ⟨B', d', rfl, b1, b2⟩ := hs3
    simp only [putAll, Act.put, List.setIfInBounds_toArray, List.set_cons_succ, List.set_cons_zero]
    go_wp2
    refine bodyPost_ret (v := .agg #[.int .i64 l0, .int .i64 l1, .slice A' rs.length c', .slice B' ms.length d']) ?_ rfl ⟨⟨A', c', B', d', rfl, ?_, ?_⟩, ?_⟩
    · simp [results, Try.results28, go_sem, Z]
    · exact ⟨SlC.at4 a1.1 a2, a1.2⟩
    · exact ⟨SlC.at4 b1.1 b2, b1.2⟩
    · go_grown
end Go.Proofs

namespace Go.Proofs
open Go.RowKit

set_option maxRecDepth 100000 in
set_option maxHeartbeats 400000 in
theorem refTotal_none (l0 l1 : Int) (A A2 : Option Addr) (c m c2 : Nat) (day : Int) (w : World) :
    Calls Try.prog 60 #[.agg #[.int .i64 l0, .int .i64 l1, .slice A 0 c, .slice A2 m c2], .int .i64 day] w fun e w' =>
      e = .returned (.tuple #[.agg #[.int .i64 0, .int .i64 0], .int .i64 12]) ∧ Below w.heap.size w w' := by
  go_enter Try.func60, Try.ntmps60
  go_wp2
  refine bodyPost_ret (v := .tuple #[.agg #[.int .i64 0, .int .i64 0], .int .i64 12]) ?_ rfl ⟨rfl, by go_grown⟩
  simp [results, Try.results60, go_sem]
theorem refTot_any (l0 l1 : Int) (A A2 : Option Addr) (rs : List Rd) (ms : List Mv) (c c2 : Nat) (day : Int) (w : World) (h0 : (checkB l0 l1 rs ms).2 = 0) (hd : within day 0 100000 = true) (hat : At 4 Rd.cs w A rs) (hat2 : At 4 Mv.cs w A2 ms) :
    Calls Try.prog 60 #[.agg #[.int .i64 l0, .int .i64 l1, .slice A rs.length c, .slice A2 ms.length c2], .int .i64 day] w fun e w' =>
      e = .returned (.tuple #[.agg #[.int .i64 (totVV l0 l1 rs ms day).1.1, .int .i64 (totVV l0 l1 rs ms day).1.2], .int .i64 (totVV l0 l1 rs ms day).2]) ∧ Below w.heap.size w w' := by
  obtain ⟨d0, d1⟩ := within_true hd
  unfold totVV totEE
  rw [h0, hd]
  by_cases hn : 0 < rs.length
  · have hp : decide (0 < (rs.length : Int)) = true := decide_eq_true (by omega)
    rw [hp]
    exact refTotalAt_any l0 l1 A A2 rs ms c c2 day w (right_of h0) d0 d1 hn hat hat2
  · have hp : decide (0 < (rs.length : Int)) = false := decide_eq_false (by omega)
    have hn0 : rs.length = 0 := by omega
    rw [hp, hn0]
    exact refTotal_none l0 l1 A A2 c ms.length c2 day w
def BookVC (l0 l1 : Int) (rs : List Rd) (ms : List Mv) (v : Value) (x : World) : Prop := ∃ A c A2 c2, v = .agg #[.int .i64 l0, .int .i64 l1, .slice A rs.length c, .slice A2 ms.length c2] ∧ (At 4 Rd.cs x A rs ∧ rs.length ≤ c) ∧ At 4 Mv.cs x A2 ms
theorem bookVC_stable (l0 l1 : Int) (rs : List Rd) (ms : List Mv) : ∀ V x x', BookVC l0 l1 rs ms V x → Below x.heap.size x x' → BookVC l0 l1 rs ms V x' := fun _ _ _ ⟨A, c, A2, c2, h1, ⟨h2, h3⟩, h4⟩ hb => ⟨A, c, A2, c2, h1, ⟨h2.below hb, h3⟩, h4.below hb⟩
theorem wrong_all {l0 l1 : Int} {rs : List Rd} {ms : List Mv} {r day : Int} {cask : ByteArray} {d : Int} (h : (checkB l0 l1 rs ms).2 = d) (hd : d ≠ 0) :
    expEE l0 l1 rs ms r day = d ∧ expVV l0 l1 rs ms r day = (0, 0) ∧ volAtV l0 l1 rs ms cask day = ((0, 0), d) ∧ totVV l0 l1 rs ms day = ((0, 0), d) := by
  have e1 : expEE l0 l1 rs ms r day = d := by unfold expEE; rw [h]; simp [firstE, hd]
  have e2 : volAtE l0 l1 rs ms cask day = d := by unfold volAtE; rw [h]; simp [firstE, hd]
  have e3 : totEE l0 l1 rs ms day = d := by unfold totEE; rw [h]; simp [firstE, hd]
  refine ⟨e1, ?_, ?_, ?_⟩
  · unfold expVV; rw [e1, if_neg hd]
  · unfold volAtV; rw [e2, if_neg hd]
  · unfold totVV; rw [e3, if_neg hd]

set_option maxRecDepth 100000 in
set_option maxHeartbeats 4000000 in
theorem gaugeExpects_walk (w : World) (l0 l1 : Int) (A A2 : Option Addr) (rs : List Rd) (ms : List Mv) (c c2 : Nat)
    (_ : -9223372036854775808 ≤ l0) (_ : l0 ≤ 9223372036854775807) (_ : -9223372036854775808 ≤ l1) (_ : l1 ≤ 9223372036854775807)
    (hat : At 4 Rd.cs w A rs) (hcap : rs.length ≤ c) (_ : A = none → c = 0) (hs : ∀ x ∈ rs, x.c.size ≤ maxLen) (hat2 : At 4 Mv.cs w A2 ms) (hcap2 : ms.length ≤ c2) (_ : A2 = none → c2 = 0) (hs2 : ∀ x ∈ ms, x.f.size ≤ maxLen ∧ x.t.size ≤ maxLen)
    (r : Int) (cask : ByteArray) (day : Int) (_ : -9223372036854775808 ≤ r) (_ : r ≤ 9223372036854775807) (_ : -9223372036854775808 ≤ day) (_ : day ≤ 9223372036854775807) (hsc : cask.size ≤ maxLen) :
    Calls Try.prog 14 #[.agg #[.int .i64 l0, .int .i64 l1, .slice A rs.length c, .slice A2 ms.length c2], .agg #[.int .i64 r, .string cask, .int .i64 day]] w fun e w' => e = .returned (.bool true) ∧ Below w.heap.size w w' := by
  unfold maxLen at hs hs2
  have hFew := Lib.hid fun W (hb : Below w.heap.size w W) => few_any l0 l1 A A2 rs ms c c2 W hs (hat.below hb) hs2 (hat2.below hb)
  have hRef := Lib.hid fun W (hb : Below w.heap.size w W) => refBookErr_any l0 l1 A A2 rs ms c c2 W hs (hat.below hb) hs2 (hat2.below hb)
  have hCpy := Lib.hid fun (h1 : rs.length ≤ 1000) (h2 : ms.length ≤ 1000) W (hb : Below w.heap.size w W) => copyBook_any l0 l1 A A2 rs ms c c2 W h1 h2 (hat.below hb) (hat2.below hb)
  have hat' := Lib.hid hat
  have hat2' := Lib.hid hat2
  unfold maxLen at hsc
  have hCpc := Lib.hid fun (h1 : rs.length ≤ 1000) (h2 : ms.length ≤ 1000) W (hb : Below w.heap.size w W) => copyBook_cap l0 l1 A A2 rs ms c c2 W h1 h2 hcap hcap2 (hat.below hb) (hat2.below hb)
  have hExp := Lib.hid fun (hn : rs.length ≤ 4611686018427387904) A A2 c c2 W (h1 : At 4 Rd.cs W A rs) (h2 : At 4 Mv.cs W A2 ms) => expectedAt_any l0 l1 A A2 rs ms c c2 r day W hn hs h1 hs2 h2
  have hVol := Lib.hid fun A A2 c c2 W (h1 : At 4 Rd.cs W A rs) (h2 : At 4 Mv.cs W A2 ms) => volumeAt_any l0 l1 A A2 rs ms c c2 cask day W hs h1 hs2 h2 hsc
  have hTot := Lib.hid fun A A2 c c2 W (hc : rs.length ≤ c) (h1 : At 4 Rd.cs W A rs) (h2 : At 4 Mv.cs W A2 ms) => totalAt_any l0 l1 A A2 rs ms c c2 day W hc hs h1 hs2 h2
  have hRExp := Lib.hid fun (hR : Right l0 l1 rs ms) (j1 : 0 ≤ day) (j2 : day ≤ 100000) (a : Nat) (x : Rd) (hx : rs[a]? = some x) W (hb : Below w.heap.size w W) => refExpectedAt_any l0 l1 A A2 rs ms c c2 a day x W hR hx j1 j2 (hat.below hb) (hat2.below hb)
  have hRVol := Lib.hid fun (hR : Right l0 l1 rs ms) (j1 : 0 ≤ day) (j2 : day ≤ 100000) W (hb : Below w.heap.size w W) => refVolumeAt_any l0 l1 A A2 rs ms c c2 cask day W hR j1 j2 (hat.below hb) (hat2.below hb)
  have hRTot := Lib.hid fun (h0 : (checkB l0 l1 rs ms).2 = 0) (hd : within day 0 100000 = true) W (hb : Below w.heap.size w W) => refTot_any l0 l1 A A2 rs ms c c2 day W h0 hd (hat.below hb) (hat2.below hb)
  have hNm := Lib.hid fun W => refName_any cask W hsc
  have hDy := Lib.hid fun W => refDayErr_any day W
  have hIn := Lib.hid fun W => refWithin_any r 0 ((rs.length : Int) - 1) W
  clear hat hat2 hs hs2
  go_enter Try.func14, Try.ntmps14
  go_wp2_with (first | (go_at_call 15; refine (awake_any _).mono ?_; rintro e w1 ⟨rfl, hb⟩; have hbw := via (by go_grown : Below w.heap.size w _) hb; have B0 : w1.heap[w.heap.size]? = some (.cells #[.int .i64 l0, .int .i64 l1, .slice A rs.length c, .slice A2 ms.length c2] 49 (0, 0)) := bk_keep hb (by (repeat (first | assumption | (refine bk_new _ _ ?_; (simp; done)) | refine bk_drew ?_ | refine bk_alloc ?_ _ | refine bk_set ?_ (by simp <;> omega) _))); have B1 : w1.heap[w.heap.size + 1]? = some (.cells #[.int .i64 r, .string cask, .int .i64 day] 102 (0, 0)) := bk_keep hb (by (repeat (first | assumption | (refine bk_new _ _ ?_; (simp; done)) | refine bk_drew ?_ | refine bk_alloc ?_ _ | refine bk_set ?_ (by simp <;> omega) _))); have C0 := bk4 B0; have C1 := bk3 B1))
  refine (hFew.out _ hbw).mono ?_
  rintro e w2 ⟨⟨rr, rfl, hr⟩, hb⟩
  have hbw := via hbw hb; replace B0 := bk_keep hb B0; replace B1 := bk_keep hb B1; replace C0 := bk4 B0; replace C1 := bk3 B1
  cases rr with
  | false =>
    clear hr
    go_wp2_with fail
    refine bodyPost_ret (v := .bool true) ?_ rfl ⟨rfl, ?_⟩
    · simp [results, Try.results14, go_sem]
    · go_grown
  | true =>
  obtain ⟨g1, g2, -, -⟩ := hr rfl
  replace hCpy := Lib.hid (hCpy.out (by omega) (by omega))
  replace hCpc := Lib.hid (hCpc.out (by omega) (by omega))
  replace hExp := Lib.hid (hExp.out (by omega))
  have hn1 : rs.length ≤ 1000 := by omega
  clear hr hFew
  by_cases h20 : 20 < (cask.size : Int)
  · go_wp2_with fail
    refine bodyPost_ret (v := .bool true) ?_ rfl ⟨rfl, ?_⟩
    · simp [results, Try.results14, go_sem]
    · go_grown
  go_wp2_with fail
  apply region_copy w 1 6 10 11 30 35 5 (BookVC l0 l1 rs ms) ((.tuple #[.agg #[.int .i64 (expVV l0 l1 rs ms r day).1, .int .i64 (expVV l0 l1 rs ms r day).2], .int .i64 (expEE l0 l1 rs ms r day)])) (.cells #[.int .i64 0, .int .i64 0] 24 (0, 0)) (.cells #[.int .i64 (expVV l0 l1 rs ms r day).1, .int .i64 (expVV l0 l1 rs ms r day).2] 24 (0, 0))
  case hm => kernel_rfl
  case hB => kernel_rfl
  case hB' => kernel_rfl
  case hS => kernel_rfl
  case hN => kernel_rfl
  case hw => exact hbw
  case hst => exact (bookVC_stable l0 l1 rs ms)
  case hal => intro o ho; simp at ho; subst ho; intro a x; kernel_rfl
  case hq =>
    intro u hu hgc hbx hbX
    have D0 := bk4 (bk_keep hu B0)
    have D1 := bk3 (bk_keep hu B1)
    simp only [dummyC, struck, yieldsC, Nat.reduceAdd, Nat.reduceBEq, Nat.zero_add, Bool.or_false, Bool.or_true, Bool.false_or, Bool.true_or, Bool.false_eq_true, if_true, if_false, Bool.or_self]
    repeat (go_big_quiet_step (fail))
    exact wpQuiet_nil rfl
  case hcp =>
    intro o ho x hx hw
    simp only [List.getElem?_cons_succ, List.getElem?_cons_zero, Option.some.injEq] at ho
    subst ho
    exact ⟨28, #[.agg #[.int .i64 l0, .int .i64 l1, .slice A rs.length c, .slice A2 ms.length c2]], by kernel_rfl, (hCpc.out x hw).mono fun e x' ⟨⟨A', c', B', d', he, h1, h2⟩, hb⟩ => ⟨_, he, ⟨A', c', B', d', rfl, h1, h2.1⟩, hb⟩⟩
  case hcl =>
    intro o ho V x hx hw hp
    simp only [List.getElem?_cons_succ, List.getElem?_cons_zero, Option.some.injEq] at ho
    subst ho
    obtain ⟨A', c', B', d', rfl, ⟨h1, h0⟩, h2⟩ := hp
    exact ⟨55, #[.agg #[.int .i64 l0, .int .i64 l1, .slice A' rs.length c', .slice B' ms.length d'], .int .i64 r, .int .i64 day], by kernel_rfl, (hExp.out A' B' c' d' x h1 h2)⟩
  case hsto =>
    intro o ho B x hx hB hz
    simp only [List.getElem?_cons_succ, List.getElem?_cons_zero, Option.some.injEq] at ho
    subst ho
    exact ⟨_, run_store2 rfl rfl rfl (by kernel_rfl) (by kernel_rfl) (by kernel_rfl) hz, below_in (below_in hx hB _) hB _, bk_here (bk_here hz _ rfl) _ rfl⟩
  case h =>
  intro M1 V u hM1 hu hbu hz1
  simp only [Act.put, List.setIfInBounds_toArray, List.set_cons_succ, List.set_cons_zero]
  replace B0 := bk_keep hu B0
  replace B1 := bk_keep hu B1
  replace C0 := bk4 B0
  replace C1 := bk3 B1
  have hbw := hbu
  clear hu hbu hExp hb
  go_wp2_with fail
  apply region_copy w 1 6 10 11 40 45 7 (BookVC l0 l1 rs ms) ((.tuple #[.agg #[.int .i64 (volAtV l0 l1 rs ms cask day).1.1, .int .i64 (volAtV l0 l1 rs ms cask day).1.2], .int .i64 (volAtV l0 l1 rs ms cask day).2])) (.cells #[.int .i64 0, .int .i64 0] 24 (0, 0)) (.cells #[.int .i64 (volAtV l0 l1 rs ms cask day).1.1, .int .i64 (volAtV l0 l1 rs ms cask day).1.2] 24 (0, 0))
  case hm => kernel_rfl
  case hB => kernel_rfl
  case hB' => kernel_rfl
  case hS => kernel_rfl
  case hN => kernel_rfl
  case hw => exact hbw
  case hst => exact (bookVC_stable l0 l1 rs ms)
  case hal => intro o ho; simp at ho; subst ho; intro a x; kernel_rfl
  case hq =>
    intro u hu hgc hbx hbX
    have D0 := bk4 (bk_keep hu B0)
    have D1 := bk3 (bk_keep hu B1)
    simp only [dummyC, struck, yieldsC, Nat.reduceAdd, Nat.reduceBEq, Nat.zero_add, Bool.or_false, Bool.or_true, Bool.false_or, Bool.true_or, Bool.false_eq_true, if_true, if_false, Bool.or_self]
    repeat (go_big_quiet_step (fail))
    exact wpQuiet_nil rfl
  case hcp =>
    intro o ho x hx hw
    simp only [List.getElem?_cons_succ, List.getElem?_cons_zero, Option.some.injEq] at ho
    subst ho
    exact ⟨28, #[.agg #[.int .i64 l0, .int .i64 l1, .slice A rs.length c, .slice A2 ms.length c2]], by kernel_rfl, (hCpc.out x hw).mono fun e x' ⟨⟨A', c', B', d', he, h1, h2⟩, hb⟩ => ⟨_, he, ⟨A', c', B', d', rfl, h1, h2.1⟩, hb⟩⟩
  case hcl =>
    intro o ho V x hx hw hp
    simp only [List.getElem?_cons_succ, List.getElem?_cons_zero, Option.some.injEq] at ho
    subst ho
    obtain ⟨A', c', B', d', rfl, ⟨h1, h0⟩, h2⟩ := hp
    exact ⟨39, #[.agg #[.int .i64 l0, .int .i64 l1, .slice A' rs.length c', .slice B' ms.length d'], .string cask, .int .i64 day], by kernel_rfl, (hVol.out A' B' c' d' x h1 h2)⟩
  case hsto =>
    intro o ho B x hx hB hz
    simp only [List.getElem?_cons_succ, List.getElem?_cons_zero, Option.some.injEq] at ho
    subst ho
    exact ⟨_, run_store2 rfl rfl rfl (by kernel_rfl) (by kernel_rfl) (by kernel_rfl) hz, below_in (below_in hx hB _) hB _, bk_here (bk_here hz _ rfl) _ rfl⟩
  case h =>
  intro M2 V2 u hM2 hu hbu hz2
  simp only [Act.put, List.setIfInBounds_toArray, List.set_cons_succ, List.set_cons_zero]
  replace B0 := bk_keep hu B0
  replace B1 := bk_keep hu B1
  replace C0 := bk4 B0
  replace C1 := bk3 B1
  replace hz1 := bk_keep hu hz1
  replace hbw := hbu
  clear hu hbu hVol
  go_wp2_with fail
  apply region_copy w 1 4 8 9 50 53 9 (BookVC l0 l1 rs ms) ((.tuple #[.agg #[.int .i64 (totVV l0 l1 rs ms day).1.1, .int .i64 (totVV l0 l1 rs ms day).1.2], .int .i64 (totVV l0 l1 rs ms day).2])) (.cells #[.int .i64 0, .int .i64 0] 24 (0, 0)) (.cells #[.int .i64 (totVV l0 l1 rs ms day).1.1, .int .i64 (totVV l0 l1 rs ms day).1.2] 24 (0, 0))
  case hm => kernel_rfl
  case hB => kernel_rfl
  case hB' => kernel_rfl
  case hS => kernel_rfl
  case hN => kernel_rfl
  case hw => exact hbw
  case hst => exact (bookVC_stable l0 l1 rs ms)
  case hal => intro o ho; simp at ho; subst ho; intro a x; kernel_rfl
  case hq =>
    intro u hu hgc hbx hbX
    have D0 := bk4 (bk_keep hu B0)
    have D1 := bk3 (bk_keep hu B1)
    simp only [dummyC, struck, yieldsC, Nat.reduceAdd, Nat.reduceBEq, Nat.zero_add, Bool.or_false, Bool.or_true, Bool.false_or, Bool.true_or, Bool.false_eq_true, if_true, if_false, Bool.or_self]
    repeat (go_big_quiet_step (fail))
    exact wpQuiet_nil rfl
  case hcp =>
    intro o ho x hx hw
    simp only [List.getElem?_cons_succ, List.getElem?_cons_zero, Option.some.injEq] at ho
    subst ho
    exact ⟨28, #[.agg #[.int .i64 l0, .int .i64 l1, .slice A rs.length c, .slice A2 ms.length c2]], by kernel_rfl, (hCpc.out x hw).mono fun e x' ⟨⟨A', c', B', d', he, h1, h2⟩, hb⟩ => ⟨_, he, ⟨A', c', B', d', rfl, h1, h2.1⟩, hb⟩⟩
  case hcl =>
    intro o ho V x hx hw hp
    simp only [List.getElem?_cons_succ, List.getElem?_cons_zero, Option.some.injEq] at ho
    subst ho
    obtain ⟨A', c', B', d', rfl, ⟨h1, h0⟩, h2⟩ := hp
    exact ⟨56, #[.agg #[.int .i64 l0, .int .i64 l1, .slice A' rs.length c', .slice B' ms.length d'], .int .i64 day], by kernel_rfl, (hTot.out A' B' c' d' x h0 h1 h2)⟩
  case hsto =>
    intro o ho B x hx hB hz
    simp only [List.getElem?_cons_succ, List.getElem?_cons_zero, Option.some.injEq] at ho
    subst ho
    exact ⟨_, run_store2 rfl rfl rfl (by kernel_rfl) (by kernel_rfl) (by kernel_rfl) hz, below_in (below_in hx hB _) hB _, bk_here (bk_here hz _ rfl) _ rfl⟩
  case h =>
  intro M3 V3 u hM3 hu hbu hz3
  simp only [Act.put, List.setIfInBounds_toArray, List.set_cons_succ, List.set_cons_zero]
  replace B0 := bk_keep hu B0
  replace B1 := bk_keep hu B1
  replace C0 := bk4 B0
  replace C1 := bk3 B1
  replace hz1 := bk_keep hu hz1
  replace hz2 := bk_keep hu hz2
  replace hbw := hbu
  clear hu hbu hTot hCpc hCpy
  have CM1 := bk2 hz1
  have CM2 := bk2 hz2
  have CM3 := bk2 hz3
  by_cases hd : (checkB l0 l1 rs ms).2 = 0
  case neg =>
    obtain ⟨q1, q2, q3, q4⟩ := wrong_all (r := r) (day := day) (cask := cask) rfl hd
    rw [q1, q2, q3, q4]
    rw [q2] at hz1 CM1
    rw [q3] at hz2 CM2
    rw [q4] at hz3 CM3
    have z2 : ((checkB l0 l1 rs ms).2 != 0) = true := by simpa using hd
    clear q1 q2 q3 q4 hd hRExp hRVol hRTot
    generalize (checkB l0 l1 rs ms).2 = d at *
    dsimp only at hz1 hz2 hz3 CM1 CM2 CM3
    go_wp2_with (first | (go_at_call 36; refine (hRef.out _ hbw).mono ?_; rintro e w5 ⟨rfl, hb⟩; replace hbw := via hbw hb; replace B0 := bk_keep hb B0; replace B1 := bk_keep hb B1; replace C0 := bk4 B0; replace C1 := bk3 B1; replace hz1 := bk_keep hb hz1; replace hz2 := bk_keep hb hz2; replace hz3 := bk_keep hb hz3; replace CM1 := bk2 hz1; replace CM2 := bk2 hz2; replace CM3 := bk2 hz3; have hsw := hbw.size))
    refine bodyPost_ret (v := .bool true) ?_ rfl ⟨rfl, ?_⟩
    · simp [results, Try.results14, go_sem]
    · go_grown
  have hR := right_of hd
  rw [hd] at hRef
  cases hday : within day 0 100000
  · have q3 : totVV l0 l1 rs ms day = ((0, 0), 2) := by
      have e : totEE l0 l1 rs ms day = 2 := by unfold totEE; rw [hd, hday]; rfl
      unfold totVV
      rw [e, if_neg (by decide)]
    rw [q3]
    rw [q3] at hz3 CM3
    rw [hday, show unl false 2 = 2 from rfl] at hDy
    clear q3 hRExp hRVol hRTot
    dsimp only at hz3 CM3
    cases hnm : nameB cask.data.toList
    · have q2 : volAtV l0 l1 rs ms cask day = ((0, 0), 4) := by
        have e : volAtE l0 l1 rs ms cask day = 4 := by unfold volAtE; rw [hd, hnm, hday]; rfl
        unfold volAtV
        rw [e, if_neg (by decide)]
      rw [q2]
      rw [q2] at hz2 CM2
      rw [hnm] at hNm
      clear q2
      dsimp only at hz2 CM2
      cases hin : within r 0 ((rs.length : Int) - 1)
      · have q1 : expEE l0 l1 rs ms r day = 6 := by unfold expEE; rw [hd, hin, hday]; rfl
        have q2 : expVV l0 l1 rs ms r day = (0, 0) := by unfold expVV; rw [q1, if_neg (by decide)]
        rw [q1, q2]
        rw [q2] at hz1 CM1
        rw [hin] at hIn
        clear q1 q2
        dsimp only at hz1 CM1
        go_wp2_with (first | (go_at_call 36; refine (hRef.out _ hbw).mono ?_; rintro e w5 ⟨rfl, hb⟩; replace hbw := via hbw hb; replace B0 := bk_keep hb B0; replace B1 := bk_keep hb B1; replace C0 := bk4 B0; replace C1 := bk3 B1; replace hz1 := bk_keep hb hz1; replace hz2 := bk_keep hb hz2; replace hz3 := bk_keep hb hz3; replace CM1 := bk2 hz1; replace CM2 := bk2 hz2; replace CM3 := bk2 hz3; have hsw := hbw.size) | (go_at_call 37; refine (hDy.out _).mono ?_; rintro e w5 ⟨rfl, rfl⟩) | (go_at_call 19; refine (hIn.out _).mono ?_; rintro e w5 ⟨rfl, rfl⟩) | (go_at_call 58; refine (hNm.out _).mono ?_; rintro e w5 ⟨rfl, rfl⟩))
        refine bodyPost_ret (v := .bool true) ?_ rfl ⟨rfl, ?_⟩
        · simp [results, Try.results14, go_sem]
        · go_grown
      · have q1 : expEE l0 l1 rs ms r day = 2 := by unfold expEE; rw [hd, hin, hday]; rfl
        have q2 : expVV l0 l1 rs ms r day = (0, 0) := by unfold expVV; rw [q1, if_neg (by decide)]
        rw [q1, q2]
        rw [q2] at hz1 CM1
        rw [hin] at hIn
        clear q1 q2
        dsimp only at hz1 CM1
        go_wp2_with (first | (go_at_call 36; refine (hRef.out _ hbw).mono ?_; rintro e w5 ⟨rfl, hb⟩; replace hbw := via hbw hb; replace B0 := bk_keep hb B0; replace B1 := bk_keep hb B1; replace C0 := bk4 B0; replace C1 := bk3 B1; replace hz1 := bk_keep hb hz1; replace hz2 := bk_keep hb hz2; replace hz3 := bk_keep hb hz3; replace CM1 := bk2 hz1; replace CM2 := bk2 hz2; replace CM3 := bk2 hz3; have hsw := hbw.size) | (go_at_call 37; refine (hDy.out _).mono ?_; rintro e w5 ⟨rfl, rfl⟩) | (go_at_call 19; refine (hIn.out _).mono ?_; rintro e w5 ⟨rfl, rfl⟩) | (go_at_call 58; refine (hNm.out _).mono ?_; rintro e w5 ⟨rfl, rfl⟩))
        refine region_all w (by kernel_rfl) (by kernel_rfl) (by go_grown) ?_
        intro hgc hbx
        repeat (go_big_quiet_step (fail))
        refine wpQuiet_nil ?_
        intro w9 hb hbw9 hs9
        clear hgc hbx
        replace hbw := via hbw hb; replace B0 := bk_keep hb B0; replace B1 := bk_keep hb B1; replace C0 := bk4 B0; replace C1 := bk3 B1; replace hz1 := bk_keep hb hz1; replace hz2 := bk_keep hb hz2; replace hz3 := bk_keep hb hz3; replace CM1 := bk2 hz1; replace CM2 := bk2 hz2; replace CM3 := bk2 hz3; have hsw := hbw.size
        go_wp2_with (first | (go_at_call 58; refine (hNm.out _).mono ?_; rintro e w5 ⟨rfl, rfl⟩))
        refine bodyPost_ret (v := .bool true) ?_ rfl ⟨rfl, ?_⟩
        · simp [results, Try.results14, go_sem]
        · go_grown
    · have q2 : volAtV l0 l1 rs ms cask day = ((0, 0), 2) := by
        have e : volAtE l0 l1 rs ms cask day = 2 := by unfold volAtE; rw [hd, hnm, hday]; rfl
        unfold volAtV
        rw [e, if_neg (by decide)]
      rw [q2]
      rw [q2] at hz2 CM2
      rw [hnm] at hNm
      clear q2
      dsimp only at hz2 CM2
      cases hin : within r 0 ((rs.length : Int) - 1)
      · have q1 : expEE l0 l1 rs ms r day = 6 := by unfold expEE; rw [hd, hin, hday]; rfl
        have q2 : expVV l0 l1 rs ms r day = (0, 0) := by unfold expVV; rw [q1, if_neg (by decide)]
        rw [q1, q2]
        rw [q2] at hz1 CM1
        rw [hin] at hIn
        clear q1 q2
        dsimp only at hz1 CM1
        go_wp2_with (first | (go_at_call 36; refine (hRef.out _ hbw).mono ?_; rintro e w5 ⟨rfl, hb⟩; replace hbw := via hbw hb; replace B0 := bk_keep hb B0; replace B1 := bk_keep hb B1; replace C0 := bk4 B0; replace C1 := bk3 B1; replace hz1 := bk_keep hb hz1; replace hz2 := bk_keep hb hz2; replace hz3 := bk_keep hb hz3; replace CM1 := bk2 hz1; replace CM2 := bk2 hz2; replace CM3 := bk2 hz3; have hsw := hbw.size) | (go_at_call 37; refine (hDy.out _).mono ?_; rintro e w5 ⟨rfl, rfl⟩) | (go_at_call 19; refine (hIn.out _).mono ?_; rintro e w5 ⟨rfl, rfl⟩) | (go_at_call 58; refine (hNm.out _).mono ?_; rintro e w5 ⟨rfl, rfl⟩))
        refine bodyPost_ret (v := .bool true) ?_ rfl ⟨rfl, ?_⟩
        · simp [results, Try.results14, go_sem]
        · go_grown
      · have q1 : expEE l0 l1 rs ms r day = 2 := by unfold expEE; rw [hd, hin, hday]; rfl
        have q2 : expVV l0 l1 rs ms r day = (0, 0) := by unfold expVV; rw [q1, if_neg (by decide)]
        rw [q1, q2]
        rw [q2] at hz1 CM1
        rw [hin] at hIn
        clear q1 q2
        dsimp only at hz1 CM1
        go_wp2_with (first | (go_at_call 36; refine (hRef.out _ hbw).mono ?_; rintro e w5 ⟨rfl, hb⟩; replace hbw := via hbw hb; replace B0 := bk_keep hb B0; replace B1 := bk_keep hb B1; replace C0 := bk4 B0; replace C1 := bk3 B1; replace hz1 := bk_keep hb hz1; replace hz2 := bk_keep hb hz2; replace hz3 := bk_keep hb hz3; replace CM1 := bk2 hz1; replace CM2 := bk2 hz2; replace CM3 := bk2 hz3; have hsw := hbw.size) | (go_at_call 37; refine (hDy.out _).mono ?_; rintro e w5 ⟨rfl, rfl⟩) | (go_at_call 19; refine (hIn.out _).mono ?_; rintro e w5 ⟨rfl, rfl⟩) | (go_at_call 58; refine (hNm.out _).mono ?_; rintro e w5 ⟨rfl, rfl⟩))
        refine region_all w (by kernel_rfl) (by kernel_rfl) (by go_grown) ?_
        intro hgc hbx
        repeat (go_big_quiet_step (fail))
        refine wpQuiet_nil ?_
        intro w9 hb hbw9 hs9
        clear hgc hbx
        replace hbw := via hbw hb; replace B0 := bk_keep hb B0; replace B1 := bk_keep hb B1; replace C0 := bk4 B0; replace C1 := bk3 B1; replace hz1 := bk_keep hb hz1; replace hz2 := bk_keep hb hz2; replace hz3 := bk_keep hb hz3; replace CM1 := bk2 hz1; replace CM2 := bk2 hz2; replace CM3 := bk2 hz3; have hsw := hbw.size
        go_wp2_with (first | (go_at_call 58; refine (hNm.out _).mono ?_; rintro e w5 ⟨rfl, rfl⟩))
        refine bodyPost_ret (v := .bool true) ?_ rfl ⟨rfl, ?_⟩
        · simp [results, Try.results14, go_sem]
        · go_grown
  · obtain ⟨j1, j2⟩ := within_true hday
    rw [hday, show unl true 2 = 0 from rfl] at hDy
    replace hRTot := Lib.hid (hRTot.out hd hday)
    replace hRVol := Lib.hid (hRVol.out hR j1 j2)
    replace hRExp := Lib.hid (hRExp.out hR j1 j2)
    obtain ⟨T, hT⟩ : ∃ T, totVV l0 l1 rs ms day = T := ⟨_, rfl⟩
    rw [hT] at hz3 CM3 hRTot ⊢
    clear hT
    obtain ⟨⟨T1, T2⟩, T3⟩ := T
    dsimp only at hz3 CM3 hRTot
    cases hnm : nameB cask.data.toList
    · have q2 : volAtV l0 l1 rs ms cask day = ((0, 0), 4) := by
        have e : volAtE l0 l1 rs ms cask day = 4 := by unfold volAtE; rw [hd, hnm, hday]; rfl
        unfold volAtV
        rw [e, if_neg (by decide)]
      rw [q2]
      rw [q2] at hz2 CM2
      rw [hnm] at hNm
      clear q2
      dsimp only at hz2 CM2
      clear hRVol
      cases hin : within r 0 ((rs.length : Int) - 1)
      · have q1 : expEE l0 l1 rs ms r day = 6 := by unfold expEE; rw [hd, hin, hday]; rfl
        have q2 : expVV l0 l1 rs ms r day = (0, 0) := by unfold expVV; rw [q1, if_neg (by decide)]
        rw [q1, q2]
        rw [q2] at hz1 CM1
        rw [hin] at hIn
        clear q1 q2
        dsimp only at hz1 CM1
        clear hRExp
        go_wp2_with (first | (go_at_call 36; refine (hRef.out _ hbw).mono ?_; rintro e w5 ⟨rfl, hb⟩; replace hbw := via hbw hb; replace B0 := bk_keep hb B0; replace B1 := bk_keep hb B1; replace C0 := bk4 B0; replace C1 := bk3 B1; replace hz1 := bk_keep hb hz1; replace hz2 := bk_keep hb hz2; replace hz3 := bk_keep hb hz3; replace CM1 := bk2 hz1; replace CM2 := bk2 hz2; replace CM3 := bk2 hz3; have hsw := hbw.size) | (go_at_call 37; refine (hDy.out _).mono ?_; rintro e w5 ⟨rfl, rfl⟩) | (go_at_call 19; refine (hIn.out _).mono ?_; rintro e w5 ⟨rfl, rfl⟩) | (go_at_call 58; refine (hNm.out _).mono ?_; rintro e w5 ⟨rfl, rfl⟩) | (go_at_call 60; refine (hRTot.out _ ?_).mono ?_; (· go_grown); rintro e w7 ⟨rfl, hb⟩; have hbw7 := via (by go_grown : Below w.heap.size w _) hb; replace hz3 := bk_keep hb (by first | with_reducible exact hz3 | exact bk_alloc hz3 _); replace CM3 := bk2 hz3; have hsw := hbw7.size))
        refine bodyPost_ret (v := .bool true) ?_ rfl ⟨rfl, ?_⟩
        · simp [results, Try.results14, go_sem]
        · go_grown
      · have q1 : expEE l0 l1 rs ms r day = 0 := by unfold expEE; rw [hd, hin, hday]; rfl
        obtain ⟨i1, i2⟩ := within_true hin
        obtain ⟨x, hx⟩ : ∃ x, rs[r.toNat]? = some x := ⟨_, List.getElem?_eq_getElem (by omega)⟩
        have q2 : expVV l0 l1 rs ms r day = rngV l0 l1 ms x day := by unfold expVV; rw [q1, if_pos rfl, hx]
        have hX := Lib.hid (hRExp.out r.toNat x hx)
        rw [show ((r.toNat : Nat) : Int) = r by omega] at hX
        rw [q1, q2]
        rw [q2] at hz1 CM1
        rw [hin] at hIn
        clear q1 q2 hRExp hx i1 i2
        generalize rngV l0 l1 ms x day = X at *
        obtain ⟨X1, X2⟩ := X
        dsimp only at hz1 CM1 hX
        go_wp2_with (first | (go_at_call 36; refine (hRef.out _ hbw).mono ?_; rintro e w5 ⟨rfl, hb⟩; replace hbw := via hbw hb; replace B0 := bk_keep hb B0; replace B1 := bk_keep hb B1; replace C0 := bk4 B0; replace C1 := bk3 B1; replace hz1 := bk_keep hb hz1; replace hz2 := bk_keep hb hz2; replace hz3 := bk_keep hb hz3; replace CM1 := bk2 hz1; replace CM2 := bk2 hz2; replace CM3 := bk2 hz3; have hsw := hbw.size) | (go_at_call 37; refine (hDy.out _).mono ?_; rintro e w5 ⟨rfl, rfl⟩) | (go_at_call 19; refine (hIn.out _).mono ?_; rintro e w5 ⟨rfl, rfl⟩) | (go_at_call 58; refine (hNm.out _).mono ?_; rintro e w5 ⟨rfl, rfl⟩))
        refine region_all w (by kernel_rfl) (by kernel_rfl) (by go_grown) ?_
        intro hgc hbx
        repeat (go_big_quiet_step ((go_at_call 57; exact Grew.call (hX.out _ (hbx.out _)))))
        refine wpQuiet_nil ?_
        intro w9 hb hbw9 hs9
        clear hgc hbx
        replace hbw := via hbw hb; replace B0 := bk_keep hb B0; replace B1 := bk_keep hb B1; replace C0 := bk4 B0; replace C1 := bk3 B1; replace hz1 := bk_keep hb hz1; replace hz2 := bk_keep hb hz2; replace hz3 := bk_keep hb hz3; replace CM1 := bk2 hz1; replace CM2 := bk2 hz2; replace CM3 := bk2 hz3; have hsw := hbw.size
        go_wp2_with (first | (go_at_call 58; refine (hNm.out _).mono ?_; rintro e w5 ⟨rfl, rfl⟩) | (go_at_call 60; refine (hRTot.out _ ?_).mono ?_; (· go_grown); rintro e w7 ⟨rfl, hb⟩; have hbw7 := via (by go_grown : Below w.heap.size w _) hb; replace hz3 := bk_keep hb (by first | with_reducible exact hz3 | exact bk_alloc hz3 _); replace CM3 := bk2 hz3; have hsw := hbw7.size))
        refine bodyPost_ret (v := .bool true) ?_ rfl ⟨rfl, ?_⟩
        · simp [results, Try.results14, go_sem]
        · go_grown
    · have q2 : volAtV l0 l1 rs ms cask day = atV l0 l1 rs ms cask day := by
        have e : volAtE l0 l1 rs ms cask day = 0 := by unfold volAtE; rw [hd, hnm, hday]; rfl
        unfold volAtV
        rw [e, if_pos rfl]
      rw [q2]
      rw [q2] at hz2 CM2
      rw [hnm] at hNm
      clear q2
      generalize atV l0 l1 rs ms cask day = V at *
      obtain ⟨⟨V1, V2⟩, V3⟩ := V
      dsimp only at hz2 CM2 hRVol
      cases hin : within r 0 ((rs.length : Int) - 1)
      · have q1 : expEE l0 l1 rs ms r day = 6 := by unfold expEE; rw [hd, hin, hday]; rfl
        have q2 : expVV l0 l1 rs ms r day = (0, 0) := by unfold expVV; rw [q1, if_neg (by decide)]
        rw [q1, q2]
        rw [q2] at hz1 CM1
        rw [hin] at hIn
        clear q1 q2
        dsimp only at hz1 CM1
        clear hRExp
        go_wp2_with (first | (go_at_call 36; refine (hRef.out _ hbw).mono ?_; rintro e w5 ⟨rfl, hb⟩; replace hbw := via hbw hb; replace B0 := bk_keep hb B0; replace B1 := bk_keep hb B1; replace C0 := bk4 B0; replace C1 := bk3 B1; replace hz1 := bk_keep hb hz1; replace hz2 := bk_keep hb hz2; replace hz3 := bk_keep hb hz3; replace CM1 := bk2 hz1; replace CM2 := bk2 hz2; replace CM3 := bk2 hz3; have hsw := hbw.size) | (go_at_call 37; refine (hDy.out _).mono ?_; rintro e w5 ⟨rfl, rfl⟩) | (go_at_call 19; refine (hIn.out _).mono ?_; rintro e w5 ⟨rfl, rfl⟩) | (go_at_call 58; refine (hNm.out _).mono ?_; rintro e w5 ⟨rfl, rfl⟩) | (go_at_call 59; refine (hRVol.out _ hbw).mono ?_; rintro e w6 ⟨rfl, hb⟩; replace hbw := via hbw hb; replace B0 := bk_keep hb B0; replace B1 := bk_keep hb B1; replace C0 := bk4 B0; replace C1 := bk3 B1; replace hz1 := bk_keep hb hz1; replace hz2 := bk_keep hb hz2; replace hz3 := bk_keep hb hz3; replace CM1 := bk2 hz1; replace CM2 := bk2 hz2; replace CM3 := bk2 hz3; have hsw := hbw.size) | (go_at_call 60; refine (hRTot.out _ ?_).mono ?_; (· go_grown); rintro e w7 ⟨rfl, hb⟩; have hbw7 := via (by go_grown : Below w.heap.size w _) hb; replace hz3 := bk_keep hb (by first | with_reducible exact hz3 | exact bk_alloc hz3 _); replace CM3 := bk2 hz3; have hsw := hbw7.size))
        refine bodyPost_ret (v := .bool true) ?_ rfl ⟨rfl, ?_⟩
        · simp [results, Try.results14, go_sem]
        · go_grown
      · have q1 : expEE l0 l1 rs ms r day = 0 := by unfold expEE; rw [hd, hin, hday]; rfl
        obtain ⟨i1, i2⟩ := within_true hin
        obtain ⟨x, hx⟩ : ∃ x, rs[r.toNat]? = some x := ⟨_, List.getElem?_eq_getElem (by omega)⟩
        have q2 : expVV l0 l1 rs ms r day = rngV l0 l1 ms x day := by unfold expVV; rw [q1, if_pos rfl, hx]
        have hX := Lib.hid (hRExp.out r.toNat x hx)
        rw [show ((r.toNat : Nat) : Int) = r by omega] at hX
        rw [q1, q2]
        rw [q2] at hz1 CM1
        rw [hin] at hIn
        clear q1 q2 hRExp hx i1 i2
        generalize rngV l0 l1 ms x day = X at *
        obtain ⟨X1, X2⟩ := X
        dsimp only at hz1 CM1 hX
        go_wp2_with (first | (go_at_call 36; refine (hRef.out _ hbw).mono ?_; rintro e w5 ⟨rfl, hb⟩; replace hbw := via hbw hb; replace B0 := bk_keep hb B0; replace B1 := bk_keep hb B1; replace C0 := bk4 B0; replace C1 := bk3 B1; replace hz1 := bk_keep hb hz1; replace hz2 := bk_keep hb hz2; replace hz3 := bk_keep hb hz3; replace CM1 := bk2 hz1; replace CM2 := bk2 hz2; replace CM3 := bk2 hz3; have hsw := hbw.size) | (go_at_call 37; refine (hDy.out _).mono ?_; rintro e w5 ⟨rfl, rfl⟩) | (go_at_call 19; refine (hIn.out _).mono ?_; rintro e w5 ⟨rfl, rfl⟩) | (go_at_call 58; refine (hNm.out _).mono ?_; rintro e w5 ⟨rfl, rfl⟩))
        refine region_all w (by kernel_rfl) (by kernel_rfl) (by go_grown) ?_
        intro hgc hbx
        repeat (go_big_quiet_step ((go_at_call 57; exact Grew.call (hX.out _ (hbx.out _)))))
        refine wpQuiet_nil ?_
        intro w9 hb hbw9 hs9
        clear hgc hbx
        replace hbw := via hbw hb; replace B0 := bk_keep hb B0; replace B1 := bk_keep hb B1; replace C0 := bk4 B0; replace C1 := bk3 B1; replace hz1 := bk_keep hb hz1; replace hz2 := bk_keep hb hz2; replace hz3 := bk_keep hb hz3; replace CM1 := bk2 hz1; replace CM2 := bk2 hz2; replace CM3 := bk2 hz3; have hsw := hbw.size
        go_wp2_with (first | (go_at_call 58; refine (hNm.out _).mono ?_; rintro e w5 ⟨rfl, rfl⟩) | (go_at_call 59; refine (hRVol.out _ hbw).mono ?_; rintro e w6 ⟨rfl, hb⟩; replace hbw := via hbw hb; replace B0 := bk_keep hb B0; replace B1 := bk_keep hb B1; replace C0 := bk4 B0; replace C1 := bk3 B1; replace hz1 := bk_keep hb hz1; replace hz2 := bk_keep hb hz2; replace hz3 := bk_keep hb hz3; replace CM1 := bk2 hz1; replace CM2 := bk2 hz2; replace CM3 := bk2 hz3; have hsw := hbw.size) | (go_at_call 60; refine (hRTot.out _ ?_).mono ?_; (· go_grown); rintro e w7 ⟨rfl, hb⟩; have hbw7 := via (by go_grown : Below w.heap.size w _) hb; replace hz3 := bk_keep hb (by first | with_reducible exact hz3 | exact bk_alloc hz3 _); replace CM3 := bk2 hz3; have hsw := hbw7.size))
        refine bodyPost_ret (v := .bool true) ?_ rfl ⟨rfl, ?_⟩
        · simp [results, Try.results14, go_sem]
        · go_grown
end Go.Proofs
