import Derived.Test.YtbikblifpfokaaaGreatDoorMg28
import Derived.Test.YtbikblifpfokaaaGreatDoorMg17
import Derived.Test.YtbikblifpfokaaaGreatDoorMg23
set_option linter.unusedSimpArgs false
set_option linter.unusedVariables false
namespace Go.Proofs
open Go.RowKit

/-! ParseSheet of what FormatSheet wrote. -/
def wi5 (x : Int) : Bool := within x 0 5
set_option maxRecDepth 100000 in
theorem noMark5_any (x : Int) (w : World) :
    Calls Tryz.prog 41 #[.int .i64 x] w fun e w' => e = .returned (.bool (!(wi5 x))) ∧ Below w.heap.size w w' := by
  have hW := Lib.hid fun W => within_any x 0 5 W
  unfold wi5
  generalize within x 0 5 = q at *
  cases q
  all_goals
    go_enter Tryz.func41, Tryz.ntmps41
    go_wp2_with (go_at_call 42; refine (hW.out _).mono ?_; rintro e w' ⟨rfl, rfl⟩)
    go_ret
    exact ⟨rfl, by go_grown⟩
set_option maxRecDepth 100000 in
set_option maxHeartbeats 1000000 in
theorem indexMarks5_any (A : Option Addr) (l : List Nat) (c : Nat) (w : World) (hl : l.length ≤ 1000) (hat : At 1 Nc w A l) (hok : ∀ a ∈ l, a ≤ 5) :
    Calls Tryz.prog 56 #[.slice A l.length c, .func (.func 41) #[] #[]] w fun e w' => e = .returned (.int .i64 (-1)) ∧ Below w.heap.size w w' := by
  have hat' := Lib.hid hat
  have hok' := Lib.hid hok
  obtain ⟨m, hm⟩ : ∃ n, l.length = n := ⟨_, rfl⟩
  have hm' := Lib.hid hm
  rw [hm] at hl ⊢
  clear hat hm hok
  go_enter Tryz.func56, Tryz.ntmps56
  go_wp2_with fail
  go_loopw [8] (fun i wr => ∃ k : Nat, k ≤ m ∧ i = .int .i64 k ∧ Below w.heap.size w wr) (fun i _ => m - (intOf i).toNat)
  case atStart => exact ⟨0, Nat.zero_le _, rfl, Below.refl _ _⟩
  case round =>
    obtain ⟨k, hk, rfl, hbw⟩ := hrel
    by_cases hlt : k < m
    · obtain ⟨y, hy⟩ : ∃ y, l[k]? = some y := ⟨_, List.getElem?_eq_getElem (by rw [hm'.out]; exact hlt)⟩
      obtain ⟨b, o, rfl, hbb, hc⟩ := hat'.out.below hbw k y hy
      have hy5 := hok'.out y (List.mem_of_getElem? hy)
      have hCy := Lib.hid fun W => noMark5_any (y : Int) W
      have hq : wi5 (y : Int) = true := by
        unfold wi5 within
        simp
        omega
      rw [hq] at hCy
      have y0 := hc 0 _ rfl
      simp only [Nat.add_zero, Nat.mul_one] at y0
      have hkI : (k : Int) < (m : Int) := by omega
      clear hc hy hq
      go_wp2_with (go_at_call 41; refine (hCy.out _).mono ?_; rintro e w1 ⟨rfl, hb⟩; have hbw := via hbw hb)
      go_roundw
      case rel => exact ⟨k + 1, by omega, by go_num, hbw⟩
      case measure => simp [intOf]; omega
    · have hkn : k = m := by omega
      subst hkn
      go_wp2
      go_ret
      exact ⟨rfl, hbw⟩
set_option maxRecDepth 100000 in
theorem containsMarks5_any (A : Option Addr) (l : List Nat) (c : Nat) (w : World) (hl : l.length ≤ 1000) (hat : At 1 Nc w A l) (hok : ∀ a ∈ l, a ≤ 5) :
    Calls Tryz.prog 40 #[.slice A l.length c, .func (.func 41) #[] #[]] w fun e w' => e = .returned (.bool false) ∧ Below w.heap.size w w' := by
  have hI := indexMarks5_any A l c w hl hat hok
  generalize l.length = m at *
  clear hat hok
  go_enter Tryz.func40, Tryz.ntmps40
  go_wp2_with (go_at_call 56; refine hI.mono ?_; rintro e w1 ⟨rfl, hb⟩)
  go_ret
  exact ⟨rfl, hb⟩
set_option maxRecDepth 100000 in
set_option maxHeartbeats 1000000 in
/-- Cut at a sign that is there. -/
theorem cutAt_in (s : ByteArray) (ch : UInt8) (k : Nat) (w : World) (hs : s.size ≤ 1000000) (hi : Lib.indexByte s.data.toList ch = (k : Int)) :
    Calls Tryz.prog 61 #[.string s, .string ⟨#[ch]⟩] w fun e w' => e = .returned (.tuple #[.string (s.extract 0 k), .string (s.extract (k + 1) s.size), .bool true]) ∧ Below w.heap.size w w' := by
  have hI := Lib.hid fun W => Tryz.stringslite_Index_one s ch W
  have hle := ix_le s.data.toList ch
  have hsz : s.data.toList.length = s.size := by rw [Array.length_toList]; rfl
  rw [hsz, hi] at hle
  rw [hi] at hI
  have hk : k < s.size := by
    rcases hle with h | ⟨-, h⟩ | h <;> omega
  have hkw : IntKind.i64.wrap ((k : Int) + 1) = (k : Int) + 1 := IntWalk.i64_in _ (by omega)
  have hk1 : (k : Int) + 1 ≤ (s.size : Int) := by omega
  have hk2 : (k : Int) ≤ (s.size : Int) := by omega
  clear hle hsz hi
  go_enter Tryz.func61, Tryz.ntmps61
  go_wp2_with (go_at_call 82; refine (hI.out _).mono ?_; rintro e w' ⟨rfl, rfl⟩)
  refine region_all w' (by kernel_rfl) (by kernel_rfl) (by go_grown) ?_
  intro hgc hbx
  repeat (go_big_quiet_step (fail))
  refine wpQuiet_nil ?_
  intro wa hb hbwa hsw
  clear hgc hbx
  go_wp2
  refine bodyPost_ret (v := .tuple #[.string (s.extract 0 k), .string (s.extract (k + 1) s.size), .bool true]) ?_ rfl ⟨rfl, hbwa⟩
  simp [results, Tryz.results61, go_sem]
set_option maxRecDepth 100000 in
theorem cutAt_any (s : ByteArray) (ch : UInt8) (k : Nat) (w : World) (hs : s.size ≤ 1000000) (hi : Lib.indexByte s.data.toList ch = (k : Int)) :
    Calls Tryz.prog 38 #[.string s, .string ⟨#[ch]⟩] w fun e w' => e = .returned (.tuple #[.string (s.extract 0 k), .string (s.extract (k + 1) s.size), .bool true]) ∧ Below w.heap.size w w' := by
  have hC := Lib.hid (cutAt_in s ch k w hs hi)
  clear hi
  go_enter Tryz.func38, Tryz.ntmps38
  go_wp2_with (go_at_call 61; refine hC.out.mono ?_; rintro e w' ⟨rfl, hb⟩)
  refine bodyPost_ret (v := .tuple #[.string (s.extract 0 k), .string (s.extract (k + 1) s.size), .bool true]) ?_ rfl ⟨rfl, by go_grown⟩
  simp [results, Tryz.results38, go_sem]
def butt : ByteArray := ⟨#[98, 117, 116, 116]⟩
theorem marks_rest (u : List Nat) (hu : ∀ a ∈ u, a < 10) (hl : u.length ≤ 100) (w : World) :
    Calls Tryz.prog 39 #[.string (restB u)] w fun e w' => (∃ A c, e = .returned (.tuple #[.slice A u.length c, .bool true]) ∧ At 1 Nc w' A u) ∧ Below w.heap.size w w' := by
  unfold restB
  by_cases h0 : u = []
  · subst h0
    rw [if_pos rfl]
    refine (marksOf_none w).mono ?_
    rintro e w' ⟨rfl, hb⟩
    exact ⟨⟨none, 0, rfl, fun k x hx => by simp at hx⟩, hb⟩
  · rw [if_neg h0]
    exact marksOf_any u h0 hu hl w
theorem sheet_text (R : ByteArray) : Lib.indexByte (butt ++ ⟨#[32]⟩ ++ R).data.toList 32 = ((4 : Nat) : Int) ∧ (butt ++ ⟨#[32]⟩ ++ R).extract 0 4 = butt ∧ (butt ++ ⟨#[32]⟩ ++ R).extract (4 + 1) (butt ++ ⟨#[32]⟩ ++ R).size = R ∧ (butt ++ ⟨#[32]⟩ ++ R).size = 5 + R.size := by
  have h : butt ++ ⟨#[32]⟩ ++ R = bs (98 :: 117 :: 116 :: 116 :: 32 :: R.data.toList) := by
    apply ByteArray.ext
    apply Array.ext'
    rw [ByteArray.data_append, ByteArray.data_append]
    simp [butt, bs]
  rw [h]
  refine ⟨?_, ?_, ?_, ?_⟩
  · rw [bs_list]
    simp [Lib.indexByte]
  · rw [bs_ext]
    rfl
  · rw [bs_ext, bs_size, List.take_of_length_le (Nat.le_refl _)]
    rfl
  · rw [bs_size]
    simp
    omega
set_option maxRecDepth 100000 in
set_option maxHeartbeats 2000000 in
theorem parseSheet_any (u : List Nat) (hu : ∀ a ∈ u, a ≤ 5) (hl : u.length ≤ 40) (w : World) :
    Calls Tryz.prog 13 #[.string (butt ++ ⟨#[32]⟩ ++ restB u)] w fun e w' => (∃ A c, e = .returned (.tuple #[.agg #[.string butt, .slice A u.length c], .int .i64 0]) ∧ At 1 Nc w' A u) ∧ Below w.heap.size w w' := by
  obtain ⟨s1, s2, s3, s4⟩ := sheet_text (restB u)
  have hRs : (restB u).size ≤ 80 := by
    unfold restB
    split
    · decide
    · have h9 := txL_len (u.map dgt)
      rw [List.length_map] at h9
      rw [bs_size]
      omega
  have hCut := Lib.hid fun W => cutAt_any (butt ++ ⟨#[32]⟩ ++ restB u) 32 4 W (by rw [s4]; omega) s1
  rw [s2, s3] at hCut
  have hMk := Lib.hid fun W => marks_rest u (fun a ha => by have := hu a ha; omega) (by omega) W
  have hCo := Lib.hid fun A c W (hat : At 1 Nc W A u) => containsMarks5_any A u c W (by omega) hat hu
  have hI := Lib.hid fun W => isName_any butt W (by decide)
  rw [show nameB butt.data.toList = true by decide] at hI
  have hU7 := Lib.hid fun W => unless_any true 7 W
  have hU4 := Lib.hid fun W => unless_any true 4 W
  have hU8 := Lib.hid fun W => unless_any true 8 W
  have hU2 := Lib.hid fun W => unless_any true 2 W
  unfold unl at hU7 hU4 hU8 hU2
  simp only [if_true] at hU7 hU4 hU8 hU2
  obtain ⟨S, hS⟩ : ∃ S, butt ++ ⟨#[32]⟩ ++ restB u = S := ⟨_, rfl⟩
  rw [hS] at hCut ⊢
  generalize restB u = R at *
  generalize butt = B at *
  have hlI : (u.length : Int) ≤ 40 := by omega
  generalize hm : u.length = m at *
  have hm' := Lib.hid hm
  clear s1 s2 s3 s4 hS hu hm
  go_enter Tryz.func13, Tryz.ntmps13
  go_wp2_with (first
    | (go_at_call 38; refine (hCut.out _).mono ?_; rintro e w1 ⟨rfl, hb1⟩; have hw1 := via (by go_grown : Below w.heap.size w _) hb1; have D1 := bk_keep hb1 (bk_new w (.cells #[.string ⟨#[]⟩, .slice none 0 0] 40) rfl))
    | (go_at_call 39; refine (hMk.out w1).mono ?_; rintro e w2 ⟨⟨A, c, rfl, hat⟩, hb2⟩; have hat' := Lib.hid hat; clear hat; have hw2 := via hw1 hb2; have D2 := bk_keep hb2 D1)
    | (go_at_call 40; refine (hCo.out A c w2 hat'.out).mono ?_; rintro e w3 ⟨rfl, hb3⟩; have hw3 := via hw2 hb3; have hat3 := Lib.hid (hat'.out.below hb3); have D3 := bk_keep hb3 D2)
    | (go_at_call 32; (first | refine (hU7.out _).mono ?_ | refine (hU4.out _).mono ?_ | refine (hU8.out _).mono ?_ | refine (hU2.out _).mono ?_); rintro e w' ⟨rfl, rfl⟩)
    | (go_at_call 43; refine (hI.out w3).mono ?_; rintro e w4 ⟨rfl, hb4⟩; have hw4 := via hw3 hb4; have hat4 := Lib.hid (hat3.out.below (via hb4 (new_below w4 (.cells #[.int .i64 0, .int .i64 0, .int .i64 0, .int .i64 0] 31)))); have D4 := bk_keep hb4 D3; have D5 := bk_alloc D4 (.cells #[.int .i64 0, .int .i64 0, .int .i64 0, .int .i64 0] 31); have d5 := bk2 D5; have hw5 := via_alloc hw4 (.cells #[.int .i64 0, .int .i64 0, .int .i64 0, .int .i64 0] 31); have q4 := Lib.hid (bk4 (bk_new w4 (.cells #[.int .i64 0, .int .i64 0, .int .i64 0, .int .i64 0] 31) rfl)); have hD5s := bk_size D5)
    | (go_at_call 31; refine (first4_any w4.heap.size (w4.alloc (.cells #[.int .i64 0, .int .i64 0, .int .i64 0, .int .i64 0] 31)) q4.out.1 q4.out.2.1 q4.out.2.2.1 q4.out.2.2.2.1).mono ?_; rintro e w' ⟨rfl, rfl⟩))
  have hA : At 1 Nc ((((w4.alloc (.cells #[.int .i64 0, .int .i64 0, .int .i64 0, .int .i64 0] 31)).setCell ⟨w.heap.size, 0, none⟩ (.string B)).setCell ⟨w.heap.size, 1, none⟩ (.slice A m c))) A u := by
    intro k x hx
    obtain ⟨b, o, hA, hb, hc⟩ := hat4.out k x hx
    have hne : b ≠ w.heap.size := by
      rintro rfl
      have h1 := hc 0 _ rfl
      rw [bk_cell D5] at h1
      rcases hoo : o + k * 1 + 0 with _ | _ | n
      · rw [hoo] at h1; simp at h1
      · rw [hoo] at h1; simp at h1
      · rw [hoo] at h1; simp at h1
    exact ⟨b, o, hA, by simpa using hb, fun j v hv => (World.cell?_of_block (a := ⟨b, _, none⟩) ((Below.heap_setCell _ _ _ b (by dsimp only; exact hne)).trans (Below.heap_setCell _ _ _ b (by dsimp only; exact hne)))).trans (hc j v hv)⟩
  have R3 := bk2 (bk_here (bk_here D5 (.string B) rfl (o := 0)) (.slice A m c) rfl (o := 1))
  refine bodyPost_ret (v := .tuple #[.agg #[.string B, .slice A m c], .int .i64 0]) ?_ rfl ⟨⟨A, c, rfl, hA⟩, by go_grown⟩
  generalize ((((w4.alloc (.cells #[.int .i64 0, .int .i64 0, .int .i64 0, .int .i64 0] 31)).setCell ⟨w.heap.size, 0, none⟩ (.string B)).setCell ⟨w.heap.size, 1, none⟩ (.slice A m c))) = W9 at *
  simp [results, Tryz.results13, go_sem, R3]
end Go.Proofs

set_option linter.unusedSimpArgs false
set_option linter.unusedVariables false
namespace Go.Proofs
open Go.RowKit

theorem rkS_at {s : ByteArray} {k : Nat} (h0 : ∀ j, j < k → s.data.toList[j]? ≠ some 45) (h1 : s.data.toList[k]? = some 45) : rkS s = s.extract 0 k := by
  unfold rkS
  have hge := Lib.indexByte_ge s.data.toList 45
  by_cases hn : Lib.indexByte s.data.toList 45 = -1
  · exact absurd h1 (Lib.indexByte_none hn k)
  · obtain ⟨o, ho⟩ : ∃ o : Nat, Lib.indexByte s.data.toList 45 = o := ⟨(Lib.indexByte s.data.toList 45).toNat, by omega⟩
    obtain ⟨a1, a2⟩ := Lib.indexByte_some ho
    have : o = k := by
      rcases Nat.lt_trichotomy o k with h | h | h
      · exact absurd a1 (h0 o h)
      · exact h
      · exact absurd h1 (a2 k h)
    rw [ho, if_pos (by omega), Int.toNat_natCast, this]
theorem rkS_no {s : ByteArray} (h0 : ∀ j : Nat, s.data.toList[j]? ≠ some 45) : rkS s = s := by
  unfold rkS
  have hge := Lib.indexByte_ge s.data.toList 45
  by_cases hn : Lib.indexByte s.data.toList 45 = -1
  · rw [hn, if_neg (by omega)]
  · obtain ⟨o, ho⟩ : ∃ o : Nat, Lib.indexByte s.data.toList 45 = o := ⟨(Lib.indexByte s.data.toList 45).toNat, by omega⟩
    exact absurd (Lib.indexByte_some ho).1 (h0 o)
set_option maxRecDepth 100000 in
set_option maxHeartbeats 1000000 in
theorem refRank_any (s : ByteArray) (w : World) (hs : s.size ≤ 1000000) : Calls Tryz.prog 17 #[.string s] w fun e w' => e = .returned (.string (rkS s)) ∧ w = w' := by
  have hat : Hid (∀ (k : Nat) (h : k < s.size), s.data.toList[k]? = some (s[k]'h)) := fun k h => by
    rw [List.getElem?_eq_getElem (by simpa using h)]
    simp
    rfl
  have hlen : Hid (s.data.toList.length = s.size) := by unfold Hid; rw [Array.length_toList]; rfl
  obtain ⟨R, hR⟩ : ∃ R, rkS s = R := ⟨_, rfl⟩
  have hR' := Lib.hid hR
  rw [hR]
  clear hR
  go_enter Tryz.func17, Tryz.ntmps17
  go_wp2
  go_loop [3] (fun i => ∃ k : Nat, k ≤ s.size ∧ i = .int .i64 (k : Int) ∧ Hid (∀ j, j < k → s.data.toList[j]? ≠ some 45)) (fun i => s.size - (intOf i).toNat)
  case atStart => exact ⟨0, by omega, rfl, fun j hj => by omega⟩
  case round =>
    obtain ⟨k, hk, rfl, hno⟩ := hrel
    by_cases hlt : k < s.size
    · have hltI : (k : Int) < (s.size : Int) := by omega
      obtain ⟨c, hc⟩ : ∃ c : UInt8, s[k]'hlt = c := ⟨_, rfl⟩
      have hck := Lib.hid (hat.out k hlt)
      rw [hc] at hck
      by_cases h45 : c = 45
      · have d1 : ((c.toNat : Int) == 45) = true := by rw [h45]; rfl
        have hv : R = s.extract 0 k := by rw [← hR'.out]; exact rkS_at hno.out (by rw [hck.out, h45])
        subst hv
        have hle : (k : Int) ≤ (s.size : Int) := by omega
        clear h45
        go_wp2
        go_ret
        exact ⟨rfl, rfl⟩
      · have d1 : ((c.toNat : Int) == 45) = false := by
          rw [beq_eq_false_iff_ne]
          intro e
          exact h45 (UInt8.toNat_inj.1 (by have : c.toNat = 45 := by omega
                                           rw [this]; rfl))
        have hnx : Hid (∀ j, j < k + 1 → s.data.toList[j]? ≠ some 45) := by
          intro j hj e
          by_cases hjk : j = k
          · subst hjk
            rw [hck.out] at e
            injection e with e
            exact h45 e
          · exact hno.out j (by omega) e
        clear h45
        go_wp2
        go_round
        case rel => exact ⟨k + 1, by omega, by go_num, hnx⟩
        case measure => simp [intOf]; omega
    · have hltI : ¬ (k : Int) < (s.size : Int) := by omega
      have hv : R = s := by
        rw [← hR'.out]
        refine rkS_no fun j e => ?_
        have hj := (List.getElem?_eq_some_iff.1 e).1
        have := hlen.out
        exact hno.out j (by omega) e
      subst hv
      go_wp2
      go_ret
      exact ⟨rfl, rfl⟩
end Go.Proofs

set_option linter.unusedSimpArgs false
set_option linter.unusedVariables false
namespace Go.Proofs
open Go.RowKit

def ErrSaid (mk : List ByteArray) (bg : Int) (cl : List Cl) (e : Ending) : Prop := ∃ d : Int, e = .returned (.int .i64 d) ∧ (d = 0 → RightB mk bg cl)
set_option maxRecDepth 100000 in
set_option maxHeartbeats 1000000 in
theorem bookErr_any (mA cA : Option Addr) (mk : List ByteArray) (cl : List Cl) (mc cc : Nat) (bg : Int) (w : World) (hm : mk.length ≤ 1000) (hc8 : cl.length ≤ 1000) (hmc : mk.length ≤ mc) (hat : BkAt w mA mk cA cl)
    (hsm : ∀ s ∈ mk, s.size ≤ 9223372036854775807) (hs : ∀ y ∈ cl, y.nm.size ≤ 9223372036854775807 ∧ y.nx.length ≤ 1000 ∧ y.rs.length ≤ 1000 ∧ ∀ s ∈ y.rs, s.size ≤ 9223372036854775807) :
    Calls Tryz.prog 6 #[.agg #[.slice mA mk.length mc, .int .i64 bg, .slice cA cl.length cc]] w fun e w' => ErrSaid mk bg cl e ∧ Below w.heap.size w w' := by
  have hC := Lib.hid fun W (hb : Below w.heap.size w W) => refCheckBook_any mA cA mk cl mc cc bg W hm hc8 hmc (hat.below hb) hsm hs
  unfold BookSaid at hC
  unfold ErrSaid
  generalize hQ : RightB mk bg cl = Q at *
  clear hQ hm hc8 hmc hat hsm hs
  go_enter Tryz.func6, Tryz.ntmps6
  go_wp2_with (go_at_call 21; refine (hC.out _ ?_).mono ?_; (· go_grown); rintro e w1 ⟨⟨n, d, rfl, hd⟩, hb⟩; have hbw := via (by go_grown : Below w.heap.size w _) hb; have hd' := Lib.hid hd; clear hd)
  go_ret
  exact ⟨⟨d, rfl, hd'.out⟩, hbw⟩
set_option maxRecDepth 100000 in
theorem sameMarks_any (mA cA mA' cA' : Option Addr) (mk mk' : List ByteArray) (cn cn' mc cc mc' cc' : Nat) (bg bg' : Int) (w : World) (hm : mk.length ≤ 9223372036854775807) (hm' : mk'.length ≤ 9223372036854775807) (hat : At 1 Sc w mA mk) (hat' : At 1 Sc w mA' mk') :
    Calls Tryz.prog 7 #[.agg #[.slice mA mk.length mc, .int .i64 bg, .slice cA cn cc], .agg #[.slice mA' mk'.length mc', .int .i64 bg', .slice cA' cn' cc']] w fun e w' => e = .returned (.bool (tl mk == tl mk')) ∧ Below w.heap.size w w' := by
  have hT := Lib.hid fun W (hb : Below w.heap.size w W) => texts_any mA mA' mk mk' mc mc' W hm hm' (hat.below hb) (hat'.below hb)
  generalize (tl mk == tl mk') = q at *
  generalize mk.length = n at *
  generalize mk'.length = n' at *
  clear hm hm' hat hat'
  go_enter Tryz.func7, Tryz.ntmps7
  go_wp2_with (go_at_call 22; refine (hT.out _ ?_).mono ?_; (· go_grown); rintro e w1 ⟨rfl, hb⟩; have hbw := via (by go_grown : Below w.heap.size w _) hb)
  go_ret
  exact ⟨rfl, hbw⟩
end Go.Proofs
