import Derived.Test.YtbikblifpfokaaaGreatDoorMg19
import Derived.Test.YtbikblifpfokaaaGreatDoorMg4
import Derived.Test.YtbikblifpfokaaaGreatDoorMg22
import Derived.Test.YtbikblifpfokaaaGreatDoorMg21
import Derived.Test.YtbikblifpfokaaaGreatDoorMg18
set_option linter.unusedSimpArgs false
set_option linter.unusedVariables false
namespace Go.Proofs
open Go.RowKit

set_option maxRecDepth 100000 in
set_option maxHeartbeats 1000000 in
/-- Whether a list of texts holds a text. -/
theorem hasText_any (A : Option Addr) (l : List ByteArray) (c : Nat) (s : ByteArray) (w : World) (hl : l.length ≤ 9223372036854775807) (hat : At 1 Sc w A l) :
    Calls Tryz.prog 51 #[.slice A l.length c, .string s] w fun e w' => e = .returned (.bool (l.any fun x => eqS x s)) ∧ Below w.heap.size w w' := by
  obtain ⟨n, hn⟩ : ∃ n, l.length = n := ⟨_, rfl⟩
  have hn' := Lib.hid hn
  rw [hn] at hl ⊢
  clear hn
  obtain ⟨R, hR⟩ : ∃ R, (l.any fun x => eqS x s) = R := ⟨_, rfl⟩
  have hR' := Lib.hid hR
  rw [hR]
  clear hR
  go_enter Tryz.func51, Tryz.ntmps51
  go_wp2
  go_loopw [5] (fun i wr => ∃ k : Nat, k ≤ n ∧ i = .int .i64 k ∧ Hid ((l.take k).any (fun x => eqS x s) = false) ∧ Below w.heap.size w wr) (fun i _ => n - (intOf i).toNat)
  case atStart => exact ⟨0, Nat.zero_le _, rfl, rfl, Below.refl _ _⟩
  case round =>
    obtain ⟨k, hk, rfl, hall, hbw⟩ := hrel
    by_cases hlt : k < n
    · obtain ⟨x, hx⟩ : ∃ x, l[k]? = some x := ⟨_, List.getElem?_eq_getElem (by rw [hn'.out]; exact hlt)⟩
      obtain ⟨b, o, rfl, hbl, hc⟩ := (hat.below hbw) k x hx
      have c0 := hc 0 _ rfl
      simp only [Nat.add_zero, Nat.mul_one] at c0
      have hx' := Lib.hid hx
      clear hc hx hat
      cases hxs : (x.toList == s.toList)
      case true =>
        have hT : R = true := by rw [← hR'.out, List.any_eq_true]; exact ⟨x, List.mem_of_getElem? hx'.out, hxs⟩
        subst hT
        go_wp2
        go_ret
        exact ⟨rfl, hbw⟩
      case false =>
        have hgo : Hid ((l.take (k + 1)).any (fun x => eqS x s) = false) := by
          unfold Hid
          rw [List.take_add_one, hx'.out, List.any_append, hall.out]
          simp [eqS, hxs]
        go_wp2
        go_roundw
        case rel => exact ⟨k + 1, by omega, by go_num, hgo, hbw⟩
        case measure => simp [intOf]; omega
    · have hkn : k = n := by omega
      have hF : R = false := by
        rw [← hR'.out]
        have := hall.out
        rwa [List.take_of_length_le (by rw [hn'.out]; omega)] at this
      subst hF
      go_wp2
      go_ret
      exact ⟨rfl, hbw⟩
end Go.Proofs

set_option linter.unusedSimpArgs false
set_option linter.unusedVariables false
namespace Go.Proofs
open Go.RowKit

theorem at_take {α : Type} {sz : Nat} {cs : α → List Value} {w : World} {A : Option Addr} {l : List α} (h : At sz cs w A l) (k : Nat) : At sz cs w A (l.take k) := fun i x hx => h i x (by
  rw [List.getElem?_take] at hx
  split at hx
  · exact hx
  · cases hx)
def BookSaid (mk : List ByteArray) (bg : Int) (cl : List Cl) (e : Ending) : Prop := ∃ n d : Int, e = .returned (.tuple #[.int .i64 n, .int .i64 d]) ∧ (d = 0 → RightB mk bg cl)
theorem take_new {mk : List ByteArray} {k : Nat} {x : ByteArray} (hx : mk[k]? = some x) (h : (mk.take k).Pairwise fun a b => a.toList ≠ b.toList) (hn : ((mk.take k).any fun y => eqS y x) = false) : (mk.take (k + 1)).Pairwise fun a b => a.toList ≠ b.toList := by
  rw [List.take_add_one, hx, Option.toList_some, List.pairwise_append]
  refine ⟨h, by simp, fun a ha b hb => ?_⟩
  simp at hb
  subst hb
  rw [List.any_eq_false] at hn
  have := hn a ha
  unfold eqS at this
  simpa using this
set_option maxRecDepth 100000 in
set_option maxHeartbeats 4000000 in
theorem refCheckBook_any (mA cA : Option Addr) (mk : List ByteArray) (cl : List Cl) (mc cc : Nat) (bg : Int) (w : World) (hm : mk.length ≤ 1000) (hc8 : cl.length ≤ 1000) (hmc : mk.length ≤ mc) (hat : BkAt w mA mk cA cl)
    (hsm : ∀ s ∈ mk, s.size ≤ 9223372036854775807) (hs : ∀ y ∈ cl, y.nm.size ≤ 9223372036854775807 ∧ y.nx.length ≤ 1000 ∧ y.rs.length ≤ 1000 ∧ ∀ s ∈ y.rs, s.size ≤ 9223372036854775807) :
    Calls Tryz.prog 21 #[.agg #[.slice mA mk.length mc, .int .i64 bg, .slice cA cl.length cc]] w fun e w' => BookSaid mk bg cl e ∧ Below w.heap.size w w' := by
  have hCE := Lib.hid fun i x W (hb : Below w.heap.size w W) (hx : cl[i]? = some x) => classErr_any mA cA mk cl mc cc bg i x W hm hc8 (hat.below hb) hx hs
  have hNm := Lib.hid fun s (h : s ∈ mk) W => refName_any s W (hsm s h)
  have hHT := Lib.hid fun k s W (hb : Below w.heap.size w W) => hasText_any mA (mk.take k) mc s W (by rw [List.length_take]; omega) (at_take (hat.mks.below hb) k)
  have hmk := Lib.hid hat.mks
  obtain ⟨m, hm0⟩ : ∃ m, mk.length = m := ⟨_, rfl⟩
  have hm' := Lib.hid hm0
  obtain ⟨n, hn0⟩ : ∃ n, cl.length = n := ⟨_, rfl⟩
  have hn' := Lib.hid hn0
  rw [hm0] at hm hmc hCE ⊢
  rw [hn0] at hc8 hCE ⊢
  clear hat hsm hs hm0 hn0
  have hmI : (m : Int) = 0 ∨ 0 < m := by omega
  by_cases h1 : m = 0
  · have z1 : ((m : Int) == 0) = true := by simp [h1]
    clear h1 hmI
    go_enter Tryz.func21, Tryz.ntmps21
    go_wp2
    refine bodyPost_ret (v := .tuple #[.int .i64 0, .int .i64 10]) ?_ rfl ⟨⟨0, 10, rfl, fun h => by omega⟩, by go_grown⟩
    simp [results, Tryz.results21, go_sem]
  have z1 : ((m : Int) == 0) = false := by rw [beq_eq_false_iff_ne]; omega
  by_cases h2 : n = 0
  · have z2 : ((n : Int) == 0) = true := by simp [h2]
    clear h2 hmI
    go_enter Tryz.func21, Tryz.ntmps21
    go_wp2
    refine bodyPost_ret (v := .tuple #[.int .i64 0, .int .i64 10]) ?_ rfl ⟨⟨0, 10, rfl, fun h => by omega⟩, by go_grown⟩
    simp [results, Tryz.results21, go_sem]
  have z2 : ((n : Int) == 0) = false := by rw [beq_eq_false_iff_ne]; omega
  by_cases h3 : 6 < (m : Int)
  · clear hmI
    go_enter Tryz.func21, Tryz.ntmps21
    go_wp2
    refine bodyPost_ret (v := .tuple #[.int .i64 0, .int .i64 8]) ?_ rfl ⟨⟨0, 8, rfl, fun h => by omega⟩, by go_grown⟩
    simp [results, Tryz.results21, go_sem]
  by_cases h4 : 8 < (n : Int)
  · clear hmI
    go_enter Tryz.func21, Tryz.ntmps21
    go_wp2
    refine bodyPost_ret (v := .tuple #[.int .i64 0, .int .i64 8]) ?_ rfl ⟨⟨0, 8, rfl, fun h => by omega⟩, by go_grown⟩
    simp [results, Tryz.results21, go_sem]
  clear hmI
  have hnw : IntKind.i64.wrap ((n : Int) - 1) = (n : Int) - 1 := IntWalk.i64_in _ (by omega)
  go_enter Tryz.func21, Tryz.ntmps21
  go_wp2
  go_loopw [4] (fun j wr => ∃ k : Nat, k ≤ m ∧ j = .int .i64 k ∧ Hid ((∀ s ∈ mk.take k, nameB s.data.toList = true) ∧ (mk.take k).Pairwise fun a b => a.toList ≠ b.toList) ∧ Below w.heap.size w wr ∧ wr.heap[w.heap.size]? = some (.cells #[.slice mA m mc, .int .i64 bg, .slice cA n cc] 25 (0, 0))) (fun j _ => m - (intOf j).toNat)
  case atStart => exact ⟨0, Nat.zero_le _, rfl, by unfold Hid; simp, by go_grown, bk_new _ _ rfl⟩
  case round =>
    obtain ⟨k, hk, rfl, hin, hbw, D0⟩ := hrel
    have C0 := bk3 D0
    by_cases hlt : k < m
    · obtain ⟨y, hy⟩ : ∃ y, mk[k]? = some y := ⟨_, List.getElem?_eq_getElem (by rw [hm'.out]; exact hlt)⟩
      obtain ⟨b, o, rfl, hb, hcy⟩ := (hmk.out.below hbw) k y hy
      have y0 := hcy 0 _ rfl
      simp only [Nat.add_zero, Nat.mul_one] at y0
      have hkI : (k : Int) < (m : Int) := by omega
      have hkC : (k : Int) ≤ (mc : Int) := by omega
      have hy' := Lib.hid hy
      have hNy := Lib.hid fun W => hNm.out y (List.mem_of_getElem? hy) W
      have hTy := Lib.hid fun W hb => hHT.out k y W hb
      have hlk : (mk.take k).length = k := by rw [List.length_take, hm'.out]; omega
      rw [hlk] at hTy
      clear hcy hy hlk
      obtain ⟨q, hq⟩ : ∃ q, nameB y.data.toList = q := ⟨_, rfl⟩
      rw [hq] at hNy
      have hq' := Lib.hid hq
      obtain ⟨t, ht⟩ : ∃ t, ((mk.take k).any fun z => eqS z y) = t := ⟨_, rfl⟩
      rw [ht] at hTy
      have ht' := Lib.hid ht
      clear hq ht
      cases q with
      | false =>
        go_wp2_with (first | (go_at_call 50; refine (hNy.out _).mono ?_; rintro e w' ⟨rfl, rfl⟩))
        refine bodyPost_ret (v := .tuple #[.int .i64 0, .int .i64 4]) ?_ rfl ⟨⟨0, 4, rfl, fun h => by omega⟩, by go_grown⟩
        simp [results, Tryz.results21, go_sem]
      | true =>
        go_wp2_with (first | (go_at_call 50; refine (hNy.out _).mono ?_; rintro e w' ⟨rfl, rfl⟩))
        refine region_all wr (by kernel_rfl) (by kernel_rfl) (by go_grown) ?_
        intro hgc hbx
        repeat (go_big_quiet_step ((go_at_call 51; exact Grew.call (hTy.out _ (via hbw (hbx.out _))))))
        refine wpQuiet_nil ?_
        intro w3 hb3 hbw3 hsz3
        clear hgc hbx
        replace hbw := via hbw hb3
        replace D0 := bk_keep hb3 D0
        cases t with
        | true =>
          go_wp2
          refine bodyPost_ret (v := .tuple #[.int .i64 0, .int .i64 5]) ?_ rfl ⟨⟨0, 5, rfl, fun h => by omega⟩, by go_grown⟩
          simp [results, Tryz.results21, go_sem]
        | false =>
          have hnx : Hid ((∀ s ∈ mk.take (k + 1), nameB s.data.toList = true) ∧ (mk.take (k + 1)).Pairwise fun a b => a.toList ≠ b.toList) := by
            refine ⟨fun z hz => ?_, take_new hy'.out hin.out.2 ht'.out⟩
            rw [List.take_add_one, hy'.out] at hz
            rcases List.mem_append.1 hz with h | h
            · exact hin.out.1 z h
            · simp at h
              subst h
              exact hq'.out
          go_wp2
          go_roundw
          case rel => exact ⟨k + 1, by omega, by go_num, hnx, hbw, D0⟩
          case measure => simp [intOf]; omega
    · have hkI : ¬ (k : Int) < (m : Int) := by omega
      have hin2 : Hid ((∀ s ∈ mk, nameB s.data.toList = true) ∧ mk.Pairwise fun a b => a.toList ≠ b.toList) := by
        have := hin.out
        rwa [List.take_of_length_le (by rw [hm'.out]; omega)] at this
      have hWb := Lib.hid fun W => refWithin_any bg 0 ((n : Int) - 1) W
      obtain ⟨q, hq⟩ : ∃ q, within bg 0 ((n : Int) - 1) = q := ⟨_, rfl⟩
      rw [hq] at hWb
      have hq' := Lib.hid hq
      clear hq hin
      cases q with
      | false =>
        go_wp2_with (first | (go_at_call 37; refine (hWb.out _).mono ?_; rintro e w' ⟨rfl, rfl⟩))
        refine bodyPost_ret (v := .tuple #[.int .i64 0, .int .i64 6]) ?_ rfl ⟨⟨0, 6, rfl, fun h => by omega⟩, by go_grown⟩
        simp [results, Tryz.results21, go_sem]
      | true =>
      go_wp2_with (first | (go_at_call 37; refine (hWb.out _).mono ?_; rintro e w' ⟨rfl, rfl⟩))
      go_loopw [5] (fun j wr => ∃ k : Nat, k ≤ n ∧ j = .int .i64 k ∧ Hid (∀ i x, i < k → cl[i]? = some x → OkC m cl i x) ∧ Below w.heap.size w wr ∧ wr.heap[w.heap.size]? = some (.cells #[.slice mA m mc, .int .i64 bg, .slice cA n cc] 25 (0, 0))) (fun j _ => n - (intOf j).toNat)
      case atStart => exact ⟨0, Nat.zero_le _, rfl, fun i x hi => by omega, hbw, D0⟩
      case round =>
        clear D0 hbw C0 hkI hlt hk
        obtain ⟨k, hk, rfl, hok, hbw, D0⟩ := hrel
        have C0 := bk3 D0
        by_cases hlt : k < n
        · obtain ⟨x, hx⟩ : ∃ x, cl[k]? = some x := ⟨_, List.getElem?_eq_getElem (by rw [hn'.out]; exact hlt)⟩
          have hkI : (k : Int) < (n : Int) := by omega
          have hx' := Lib.hid hx
          have hCx := Lib.hid fun W hb => hCE.out k x W hb hx
          clear hx
          unfold ClsSaid at hCx
          go_wp2_with fail
          refine (hCx.out _ hbw).mono ?_
          rintro e w4 ⟨⟨d, rfl, hd⟩, hb4⟩
          replace hbw := via hbw hb4
          replace D0 := bk_keep hb4 D0
          have hd' := Lib.hid hd
          clear hd
          by_cases h0 : d = 0
          · have z3 : (d != 0) = false := by simp [h0]
            have hnx : Hid (∀ i x, i < k + 1 → cl[i]? = some x → OkC m cl i x) := by
              intro i y hi hy
              by_cases hik : i = k
              · subst hik
                rw [hx'.out] at hy
                injection hy with hy
                subst hy
                exact hd'.out h0
              · exact hok.out i y (by omega) hy
            clear h0
            go_wp2
            go_roundw
            case rel => exact ⟨k + 1, by omega, by go_num, hnx, hbw, D0⟩
            case measure => simp [intOf]; omega
          · have z3 : (d != 0) = true := by simpa using h0
            have h0' := Lib.hid h0
            clear h0
            go_wp2
            refine bodyPost_ret (v := .tuple #[.int .i64 k, .int .i64 d]) ?_ rfl ⟨⟨k, d, rfl, fun h => absurd h h0'.out⟩, hbw⟩
            simp [results, Tryz.results21, go_sem]
        · have hkn : k = n := by omega
          have hkI : ¬ (k : Int) < (n : Int) := by omega
          have hR : Hid (RightB mk bg cl) := by
            have ok : ∀ x ∈ cl, ∃ i, cl[i]? = some x ∧ OkC m cl i x := by
              intro x hx
              obtain ⟨i, hi⟩ := List.getElem?_of_mem hx
              have hil := (List.getElem?_eq_some_iff.1 hi).1
              exact ⟨i, hi, hok.out i x (by rw [hn'.out] at hil; omega) hi⟩
            have mm := hm'.out
            have nn := hn'.out
            refine ⟨⟨by omega, by omega⟩, ⟨by omega, by omega⟩, hin2.out.1, hin2.out.2, ?_, fun x hx => ?_, ?_, fun x hx => ?_, fun x hx => ?_, fun x hx => ?_⟩
            · rw [nn]; exact within_true hq'.out
            · obtain ⟨i, -, h⟩ := ok x hx; exact h.nm
            · rw [List.pairwise_iff_getElem]
              intro i j hi hj hij
              exact (hok.out j _ (by omega) (List.getElem?_eq_getElem hj)).new i _ hij (List.getElem?_eq_getElem hi)
            · obtain ⟨i, -, h⟩ := ok x hx; rw [mm]; exact h.sh
            · obtain ⟨i, -, h⟩ := ok x hx; exact h.nx
            · obtain ⟨i, -, h⟩ := ok x hx; exact h.rn
          clear hkn
          go_wp2
          refine bodyPost_ret (v := .tuple #[.int .i64 0, .int .i64 0]) ?_ rfl ⟨⟨0, 0, rfl, fun _ => hR.out⟩, hbw⟩
          simp [results, Tryz.results21, go_sem]
end Go.Proofs

set_option linter.unusedSimpArgs false
set_option linter.unusedVariables false
namespace Go.Proofs
open Go.RowKit

theorem push_text {x : World} {base : Nat} {v : Value} {n : Nat} {xs : List ByteArray} (h : x.ownsRow base 9 1 v n (xs.flatMap Sc)) (s : ByteArray) (hn : n ≤ 1000) (hb : base ≤ x.heap.size) :
    ∃ v' x', (Builtin.append_ #[22, 22] 22 #[v, .slice (some ⟨x.heap.size, 0, none⟩) 1 1]).run Tryz.prog (x.alloc (.cells #[.string s] 9)) = .ok v' x' ∧ x'.ownsRow base 9 1 v' (n + 1) ((xs ++ [s]).flatMap Sc) ∧ x.grownBy x' v.ownBlock := by
  obtain ⟨i3, z3, hi3, hz3, hi3s, hz3s, hi3b⟩ := info_of (t := 9) (n := 1) (b := 16) (by kernel_rfl)
  obtain ⟨v', x', r1, r2, r3⟩ := run_append3 (P := Tryz.prog) (w := x.alloc (.cells #[.string s] 9)) base 22 22 9 i3 z3 1 16 Tryz.underlying22 hi3 hz3 hi3s hi3b hz3s v n (xs.flatMap Sc) (h.alloc _) ⟨x.heap.size, 0, none⟩ 1 1 [.string s] rfl (fun j u hj => World.news_of_block (bk_new x (.cells #[.string s] 9) rfl) j u hj) (by intro u hu; simp at hu; subst hu; rfl) (by decide) (by unfold maxLen; omega) (by omega) (by simp; omega)
  refine ⟨v', x', r1, by rw [List.flatMap_append]; exact r2, ?_⟩
  rcases r3 with ⟨hg, -⟩ | ⟨hg, -⟩
  · exact ⟨hg.os, hg.tape, hg.output, by have := hg.size; simp at this; omega, fun k hk _ => (hg.block k (by simp; omega) (by simp)).trans (Below.heap_alloc x _ k hk)⟩
  · exact ⟨hg.os, hg.tape, hg.output, by have := hg.size; simp at this; omega, fun k hk hne => (hg.block k (by simp; omega) hne).trans (Below.heap_alloc x _ k hk)⟩
set_option maxRecDepth 100000 in
set_option maxHeartbeats 4000000 in
/-- CheckBook of a right book. -/
theorem checkBook_ok (mA cA : Option Addr) (mk : List ByteArray) (cl : List Cl) (mc cc : Nat) (bg : Int) (w : World) (hR : RightB mk bg cl) (hat : BkAt w mA mk cA cl) (hmc : mk.length ≤ mc) :
    Calls Tryz.prog 53 #[.agg #[.slice mA mk.length mc, .int .i64 bg, .slice cA cl.length cc]] w fun e w' => e = .returned (.tuple #[.int .i64 0, .int .i64 0]) ∧ Below w.heap.size w w' := by
  have hM6 := hR.m1
  have hN8 := hR.c1
  have hat' := Lib.hid hat
  have hR' := Lib.hid hR
  have hU10 := Lib.hid fun W => unless_any true 10 W
  have hU8 := Lib.hid fun W => unless_any true 8 W
  have hU6 := Lib.hid fun W => unless_any true 6 W
  have hU4 := Lib.hid fun W => unless_any true 4 W
  unfold unl at hU10 hU8 hU6 hU4
  simp only [if_true] at hU10 hU8 hU6 hU4
  obtain ⟨M, hM⟩ : ∃ M, mk.length = M := ⟨_, rfl⟩
  obtain ⟨N, hN⟩ : ∃ N, cl.length = N := ⟨_, rfl⟩
  have hM' := Lib.hid hM
  have hN' := Lib.hid hN
  have hIC := Lib.hid fun B W (hB : W.heap[B]? = some (.cells #[.int .i64 (N : Int)] 3 (0, 0))) => isClass_any N bg B W (by omega) hB
  have hwi : wi N bg = true := by
    have := hR.bg
    unfold wi within
    rw [hN] at this
    simp [this.1, this.2]
  rw [hwi] at hIC
  rw [hM] at hM6 hmc ⊢
  rw [hN] at hN8 ⊢
  have hMI : (0 : Int) < (M : Int) ∧ (M : Int) ≤ 6 := by omega
  have hNI : (0 : Int) < (N : Int) ∧ (N : Int) ≤ 8 := by omega
  clear hR hat hM hN hwi
  have hsf : ∀ (W : World) (a : Addr) (f : Fn) (x y : Array Value), (store a (.func f x y)).run Tryz.prog W = stored Tryz.prog W a (.func f x y) .plain := fun W a f x y => run_store Tryz.prog W a _ _ rfl
  have hmf : ∀ (fn : Fn) (first cap : Array Value) (w : World), (Instr.makeFunc fn first cap).run Tryz.prog w = .ok (.func fn first cap) w := fun _ _ _ _ => rfl
  obtain ⟨hMI1, hMI2⟩ := hMI
  obtain ⟨hNI1, hNI2⟩ := hNI
  go_enter Tryz.func53, Tryz.ntmps53
  go_wp2_with fail
  refine wp_world ?_
  intro W hW_W
  have hb_W : Below w.heap.size w W := by rw [hW_W]; go_grown
  have B0 : W.heap[w.heap.size]? = some (.cells #[.slice mA M mc, .int .i64 bg, .slice cA N cc] 25 (0, 0)) := by rw [hW_W]; (repeat (first | assumption | (refine bk_new _ _ ?_; (simp; done)) | refine bk_drew ?_ | refine bk_alloc ?_ _ | refine bk_set ?_ (by simp <;> omega) _))
  have hsW : W.heap.size = w.heap.size + 1 := by rw [hW_W]; simp
  clear hW_W
  apply region_store w 6 8 5 (.cells #[.int .i64 0] 3 (0, 0)) (.cells #[.int .i64 (N : Int)] 3 (0, 0))
  case hm => kernel_rfl
  case hB => kernel_rfl
  case hB' => kernel_rfl
  case hS => kernel_rfl
  case hN => kernel_rfl
  case hw => exact hb_W
  case hal => intro o ho; simp at ho; subst ho; intro a x; kernel_rfl
  case hq =>
    intro u hu hgc hbx hbX
    have u0 := bk3 (bk_keep hu B0)
    have hus := bk_size (bk_keep hu B0)
    simp only [dummyAt, struck, Nat.reduceAdd, Nat.reduceBEq, Nat.reduceEqDiff, Nat.zero_add, Bool.or_false, Bool.or_true, Bool.false_or, Bool.true_or, Bool.false_eq_true, if_true, if_false, Bool.or_self]
    repeat (go_big_quiet_step (fail))
    exact wpQuiet_nil rfl
  case hst =>
    intro o ho B x hx hB hz
    simp only [List.getElem?_cons_succ, List.getElem?_cons_zero, Option.some.injEq] at ho
    subst ho
    have Cz := bk1 hz
    refine ⟨x.setCell ⟨B, 0, none⟩ (.int .i64 (N : Int)), by simp [execOp, go_sem, Act.put, Cz], below_in hx hB _, bk_here hz _ rfl⟩
  case h =>
    intro B x hB hx hx0 hz
    simp only [Act.put, List.setIfInBounds_toArray, List.set_cons_succ, List.set_cons_zero]
    have C0 := bk3 (bk_keep hx B0)
    have Cz := bk1 hz
    have hBs := bk_size hz
    have hB0x := bk_keep hx B0
    go_wp2_with (first
      | (go_at_call 32; (first | refine (hU10.out _).mono ?_ | refine (hU8.out _).mono ?_); rintro e w1 ⟨rfl, rfl⟩)
      | (go_at_call 31; refine (first2_any _ _ (bk2 (bk_new _ _ rfl)).1 (bk2 (bk_new _ _ rfl)).2.1).mono ?_; rintro e w1 ⟨rfl, rfl⟩; have C0' := bk3 (bk_alloc hB0x (.cells #[.int .i64 0, .int .i64 0] 31))))
    go_loopw [45] (fun j wr => ∃ i : Nat, i ≤ M ∧ j = .int .i64 i ∧ Below w.heap.size w wr ∧ wr.heap[w.heap.size]? = some (.cells #[.slice mA M mc, .int .i64 bg, .slice cA N cc] 25 (0, 0)) ∧ wr.heap[B]? = some (.cells #[.int .i64 (N : Int)] 3 (0, 0)))
      (fun j _ => M - (intOf j).toNat)
    case atStart => exact ⟨0, Nat.zero_le _, rfl, by go_grown, bk_alloc hB0x _, bk_alloc hz _⟩
    case round =>
      obtain ⟨i, hi, rfl, hbw, hbx, hbn⟩ := hrel
      have C1 := bk3 hbx
      have C2 := bk1 hbn
      have s1 := bk_size hbx
      have s2 := bk_size hbn
      by_cases hlt : i < M
      · obtain ⟨s, hs⟩ : ∃ s, mk[i]? = some s := ⟨_, List.getElem?_eq_getElem (by rw [hM'.out]; exact hlt)⟩
        have hsm := List.mem_of_getElem? hs
        have hnm := hR'.out.mn s hsm
        have hni : s ∉ mk.take i := by
          intro hin
          obtain ⟨hi', he⟩ := List.getElem?_eq_some_iff.1 hs
          obtain ⟨j, hj, hje⟩ := List.getElem_of_mem hin
          rw [List.length_take] at hj
          have hmd := List.pairwise_iff_getElem.1 hR'.out.md j i (by omega) hi' (by omega)
          rw [List.getElem_take] at hje
          exact hmd (by rw [hje, he])
        have hNE := Lib.hid fun X (hb : Below w.heap.size w X) => nameErrNew_any mA (mk.take i) mc s X (by have := name_size hnm; omega) hnm (by rw [List.length_take, hM'.out]; omega) (at_take (hat'.out.mks.below hb) i) hni
        have hli : (mk.take i).length = i := by rw [List.length_take, hM'.out]; omega
        rw [hli] at hNE
        obtain ⟨b, o, rfl, hbb, hc⟩ := hat'.out.mks i s hs
        have c0 := (gcell hbw b (o + i) hbb).trans (by simpa using hc 0 _ rfl)
        have hbr : b < wr.heap.size := Nat.lt_of_lt_of_le hbb hbw.size
        have hiI : (i : Int) < (M : Int) := by omega
        have hic : (i : Int) ≤ (mc : Int) := by omega
        have hmc0 : ¬ mc = 0 := by omega
        clear hc hs hsm hnm hni
        go_wp2_with (go_at_call 77; refine (hNE.out _ hbw).mono ?_; rintro e w1 ⟨rfl, hb⟩)
        go_roundw
        case rel => exact ⟨i + 1, by omega, by go_num, via hbw hb, bk_keep hb hbx, bk_keep hb hbn⟩
        case measure => simp [intOf]; omega
      · have hiM : M = i := by omega
        subst hiM
        have hbd := new_below wr (.cells #[.func (.func 78) #[] #[.pointer (some ⟨B, 0, none⟩)]] 90)
        go_wp2_with (go_at_call 78; refine (hIC.out B _ (bk_keep hbd hbn)).mono ?_; rintro e w1 ⟨rfl, hb⟩; have hb1 := via hbd hb; have D1 := bk_keep hb (bk_new wr (.cells #[.func (.func 78) #[] #[.pointer (some ⟨B, 0, none⟩)]] 90) rfl); have B1x := bk_keep hb1 hbx; have C9 := bk3 B1x)
        obtain ⟨D, hD⟩ : ∃ D, wr.heap.size = D := ⟨_, rfl⟩
        rw [hD] at D1 s1 s2 ⊢
        have N1 := bk_keep hb1 hbn
        have hw1 := via hbw hb1
        clear hb hb1 hbw hbx hbn C1 C2 hbd
        go_loopw [69, 11] (fun j v wr => ∃ i : Nat, i ≤ N ∧ j = .int .i64 i ∧ Below w.heap.size w wr ∧ wr.heap[w.heap.size]? = some (.cells #[.slice mA M mc, .int .i64 bg, .slice cA N cc] 25 (0, 0)) ∧ wr.heap[B]? = some (.cells #[.int .i64 (N : Int)] 3 (0, 0)) ∧ wr.heap[D]? = some (.cells #[.func (.func 78) #[] #[.pointer (some ⟨B, 0, none⟩)]] 90 (0, 0)) ∧ Hid (wr.ownsRow (D + 1) 9 1 v i (((cl.take i).map (·.nm)).flatMap Sc)))
          (fun j _ _ => N - (intOf j).toNat)
        case atStart => exact ⟨0, Nat.zero_le _, rfl, hw1, B1x, N1, D1, World.ownsRow_nil _ _ _ _⟩
        case round =>
          clear B1x N1 D1 hw1 C9
          obtain ⟨k, hk, rfl, hbw, hbx, hbn, hbd, ho⟩ := hrel
          have C1 := bk3 hbx
          have C2 := bk1 hbn
          have C3 := bk1 hbd
          have t1 := bk_size hbx
          have t2 := bk_size hbn
          have t3 := bk_size hbd
          by_cases hlt : k < N
          · obtain ⟨y, hy⟩ : ∃ y, cl[k]? = some y := ⟨_, List.getElem?_eq_getElem (by rw [hN'.out]; exact hlt)⟩
            have hym := List.mem_of_getElem? hy
            obtain ⟨hn1, hn2⟩ := hR'.out.sh y hym
            rw [hM'.out] at hn1 hn2
            obtain ⟨b, o, rfl, hb, hc⟩ := hat'.out.cls k y hy
            have hatn := hat'.out.nxs y hym
            have hatr := hat'.out.rss y hym
            have hnx := hR'.out.nx y hym
            have hrn := hR'.out.rn y hym
            have hnm := hR'.out.nm y hym
            have htk : Hid (cl.take (k + 1) = cl.take k ++ [y]) := by
              obtain ⟨hk', he⟩ := List.getElem?_eq_some_iff.1 hy
              unfold Hid
              rw [List.take_succ_eq_append_getElem hk', he]
            have hnew : y.nm ∉ (cl.take k).map (·.nm) := by
              intro hin
              obtain ⟨z, hz, hze⟩ := List.mem_map.1 hin
              obtain ⟨hk', he⟩ := List.getElem?_eq_some_iff.1 hy
              obtain ⟨j, hj, hje⟩ := List.getElem_of_mem hz
              rw [List.length_take] at hj
              have hmd := List.pairwise_iff_getElem.1 hR'.out.cd j k (by omega) hk' (by omega)
              rw [List.getElem_take] at hje
              exact hmd (by rw [hje, he, hze])
            have hln : ((cl.take k).map (·.nm)).length = k := by rw [List.length_map, List.length_take, hN'.out]; omega
            obtain ⟨L, hL⟩ : ∃ L, (cl.take k).map (·.nm) = L := ⟨_, rfl⟩
            rw [hL] at ho hnew hln
            have hL' := Lib.hid hL
            clear hL
            obtain ⟨nm, nA, nx, nc, rA, rs, rc⟩ := y
            dsimp only at hn1 hn2 hatn hatr hnx hrn hnm hnew
            have hCI := Lib.hid fun W (hb : Below w.heap.size w W) h1 h2 => containsInts_any nA nx nc N B D W (by omega) (by omega) (hatn.below hb) h1 h2
            have hCT := Lib.hid fun W (hb : Below w.heap.size w W) => containsTexts_any rA rs rc W (by omega) (hatr.below hb) (fun s hs => by have := name_size (hrn s hs); omega)
            have e1 : (nx.any fun y => !(wi N y)) = false := by
              rw [List.any_eq_false]
              intro z hz
              have := hnx z hz
              rw [hN'.out] at this
              unfold wi within
              simp [this.1, this.2]
            have e2 : (rs.any fun y => !(nm8 y)) = false := by
              rw [List.any_eq_false]
              intro z hz
              unfold nm8
              rw [hrn z hz]
              simp
            rw [e1, hn1] at hCI
            rw [e2, hn2] at hCT
            have hNE := Lib.hid fun A c W hat => nameErrNew_any A L c nm W (by have := name_size hnm; omega) hnm (by omega) hat hnew
            rw [hln] at hNE
            obtain ⟨Av, cv, rfl, hatv⟩ : ∃ A c, u11 = .slice A k c ∧ At 1 Sc wr A L := by
              have h9 := ho.out
              rw [← hln] at h9
              obtain ⟨A', c', h10, h11⟩ := at_of_owns (cs := Sc) (sz := 1) (fun _ => rfl) h9
              exact ⟨A', c', by rw [h10, hln], h11⟩
            have hatv' := Lib.hid hatv
            have y0 := (gcell hbw b (o + k * 3 + 0) hb).trans (hc 0 _ rfl)
            have y1 := (gcell hbw b (o + k * 3 + 1) hb).trans (hc 1 _ rfl)
            have y2 := (gcell hbw b (o + k * 3 + 2) hb).trans (hc 2 _ rfl)
            dsimp only at y0 y1 y2
            rw [hn1] at y1
            rw [hn2] at y2
            simp only [Nat.add_zero] at y0
            have hbr : b < wr.heap.size := Nat.lt_of_lt_of_le hb hbw.size
            have hkI : (k : Int) < (N : Int) := by omega
            clear hc hy hym hatn hatr hnx hrn hnm hnew e1 e2 hatv
            go_wp2_with (first
              | (go_at_call 40; refine (hCI.out _ (via_alloc hbw _) (bk_alloc hbn _) (bk_alloc hbd _)).mono ?_; rintro e w2 ⟨rfl, hb2⟩; have T2 := bk_keep hb2 (bk_new wr (.cells #[.string nm, .slice nA M nc, .slice rA M rc] 57 (0, 0)) rfl); have t4 := bk3 T2; have hb2' := via (new_below wr (.cells #[.string nm, .slice nA M nc, .slice rA M rc] 57 (0, 0))) hb2; have hw2 := via hbw hb2')
              | (go_at_call 80; refine (hCT.out w2 hw2).mono ?_; rintro e w3 ⟨rfl, hb3⟩; have T3 := bk_keep hb3 T2; have t5 := bk3 T3; have hb3' := via hb2' hb3; have hw3 := via hw2 hb3))
            have hat3 := hatv'.out.below hb3'
            have T3s := bk_size T3
            clear t4
            refine region_in w3 23 (by kernel_rfl) (by kernel_rfl) (Below.refl _ _) ?_
            intro hgc hbx
            simp only [List.take_succ_cons, List.take_zero, List.drop_succ_cons, List.drop_zero]
            repeat (go_big_quiet_step (first
              | (go_at_call 77; exact Grew.call (hNE.out Av cv _ (hat3.below (hbx.out _))))
              | (go_at_call 32; (first | exact Grew.call_same (hU10.out _) | exact Grew.call_same (hU6.out _) | exact Grew.call_same (hU4.out _)))))
            refine wpQuiet_nil ?_
            intro w4 hb4 _ _
            have T4 := bk_keep hb4 T3
            have t6 := bk3 T4
            have hb4' := via hb3' hb4
            have hw4 := via hw3 hb4
            have T4s := bk_size T4
            obtain ⟨v5, w5, hr5, ho5, hg5⟩ := push_text ((owns_below ho.out hb4').alloc (.cells #[.int .i64 0, .int .i64 0, .int .i64 0, .int .i64 0] 31)) nm (by omega) (by simp; omega)
            rw [show (w4.alloc (.cells #[.int .i64 0, .int .i64 0, .int .i64 0, .int .i64 0] 31)).heap.size = w4.heap.size + 1 by simp] at hr5
            have hr5' := Lib.hid hr5
            clear hr5 hNE hCI hCT hIC hU10 hU8 hU6 hU4 hgc hbx
            have q4 := bk4 (bk_new w4 (.cells #[.int .i64 0, .int .i64 0, .int .i64 0, .int .i64 0] 31) rfl)
            have hF4 := Lib.hid (first4_any w4.heap.size (w4.alloc (.cells #[.int .i64 0, .int .i64 0, .int .i64 0, .int .i64 0] 31)) q4.1 q4.2.1 q4.2.2.1 q4.2.2.2.1)
            have t7 := bk3 (bk_alloc T4 (.cells #[.int .i64 0, .int .i64 0, .int .i64 0, .int .i64 0] 31))
            clear q4
            go_wp2_with (first
              | (go_at_call 31; refine hF4.out.mono ?_; rintro e w1 ⟨rfl, rfl⟩)
              | (at_builtin; refine wpList_app rfl (.tmp 110) (.tmp 113) 22 rfl rfl rfl hr5'.out ?_))
            go_roundw
            case rel =>
              have hbA := via_alloc hb4' (.cells #[.int .i64 0, .int .i64 0, .int .i64 0, .int .i64 0] 31)
              have hlt5 : ∀ r, (Value.slice Av k cv).ownBlock = some r → D + 1 ≤ r := fun r e => (ho.out.lt r e).1
              have hks : ∀ {j : Nat} {ob : Obj}, j ≤ D → wr.heap[j]? = some ob → w5.heap[j]? = some ob := fun {j ob} hj h => by
                have h1 := bk_keep hbA h
                rw [hg5.block j (bk_size h1) (fun e => by have := hlt5 _ e.symm; omega)]
                exact h1
              have hwA := via_alloc hw4 (.cells #[.int .i64 0, .int .i64 0, .int .i64 0, .int .i64 0] 31)
              refine ⟨k + 1, by omega, by go_num, hwA.grown hg5 hwA.size (fun r e => by have := hlt5 r e; omega), hks (by omega) hbx, hks (by omega) hbn, hks (by omega) hbd, ?_⟩
              rw [htk.out, List.map_append, hL'.out]
              exact ho5
            case measure => simp [intOf]; omega
          · have hkI : ¬ (k : Int) < (N : Int) := by omega
            go_wp2
            refine bodyPost_ret (v := .tuple #[.int .i64 0, .int .i64 0]) ?_ rfl ⟨rfl, hbw⟩
            simp [results, Tryz.results53, go_sem]
end Go.Proofs
