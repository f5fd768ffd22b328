import Derived.Test.YtjfdjjekonkgjaaZi
import Derived.Test.YtjfdjjekonkgjaaFx
set_option linter.unusedSimpArgs false
set_option linter.unusedVariables false
namespace Go.Proofs
open Go.RowKit

def Rwc (p : Int × Int × Int) : List Value := [.int .i64 p.1, .int .i64 p.2.1, .int .i64 p.2.2]
/-- The table of a right cask, from a dip on. -/
def tabGo (bung : Int) (ss : List St) (step : Int) : Nat → Int → List (Int × Int × Int)
  | 0, _ => []
  | f + 1, d => if d ≤ 2 * bung then (d, toV bung d ss) :: tabGo bung ss step f (d + step) else []
def tabV (bung : Int) (ss : List St) (step : Int) : List (Int × Int × Int) := tabGo bung ss step 200 0
def RetRows (w : World) (rows : List (Int × Int × Int)) (E : Int) (e : Ending) (w' : World) : Prop := (∃ A3 cap, e = .returned (.tuple #[.slice A3 rows.length cap, .int .i64 E]) ∧ At 3 Rwc w' A3 rows) ∧ Below w.heap.size w w'
def TabAt (bung : Int) (ss : List St) (step : Int) (k : Nat) (d : Int) (acc : List (Int × Int × Int)) : Prop := acc.length = k ∧ 10 * (k : Int) ≤ d ∧ tabV bung ss step = acc ++ tabGo bung ss step (200 - k) d
theorem tab_go {bung : Int} {ss : List St} {step : Int} {k : Nat} {d : Int} {acc : List (Int × Int × Int)} (h : TabAt bung ss step k d acc) (hk : k < 200) (hd : d ≤ 2 * bung) (hs : 10 ≤ step) : TabAt bung ss step (k + 1) (d + step) (acc ++ [(d, toV bung d ss)]) := by
  obtain ⟨h1, h2, h3⟩ := h
  refine ⟨by simp [h1], by omega, ?_⟩
  rw [h3, show 200 - k = (200 - (k + 1)) + 1 by omega]
  simp only [tabGo, if_pos hd, List.append_assoc, List.singleton_append]
theorem tab_end {bung : Int} {ss : List St} {step : Int} {k : Nat} {d : Int} {acc : List (Int × Int × Int)} (h : TabAt bung ss step k d acc) (hk : k < 200) (hd : ¬ d ≤ 2 * bung) : tabV bung ss step = acc := by
  obtain ⟨h1, h2, h3⟩ := h
  rw [h3, show 200 - k = (200 - (k + 1)) + 1 by omega]
  simp only [tabGo, if_neg hd, List.append_nil]
theorem info143 : (Try.prog.info? 143).map (fun i => (i.zero, i.size, i.bytes)) = some (some (.agg #[.int .i64 0, .int .i64 0, .int .i64 0]), 3, 24) := by kernel_rfl
theorem cell_three_new (w : World) (u0 u1 u2 : Value) (t : TypeId) : ∀ j u, [u0, u1, u2][j]? = some u → (w.alloc (.cells #[u0, u1, u2] t)).cell? (Addr.add ⟨w.heap.size, 0, none⟩ j) = some u := by
  intro j u hu
  rw [addr_add rfl]
  rw [bk_cell (bk_new w _ rfl)]
  match j, hu with
  | 0, hu => simpa using hu
  | 1, hu => simpa using hu
  | 2, hu => simpa using hu

set_option maxRecDepth 100000 in
set_option maxHeartbeats 2000000 in
theorem refTableOf_any (s : ByteArray) (bung : Int) (A : Option Addr) (ss : List St) (c : Nat) (step : Int) (w : World) (hR : RightC bung ss) (hat : At 3 St.cs w A ss) (hst : within step 10 800 = true) :
    Calls Try.prog 42 #[.agg #[.string s, .int .i64 bung, .slice A ss.length c], .int .i64 step] w fun e w' => RetRows w (tabV bung ss step) 0 e w' := by
  have hI := Lib.hid fun W => refWithin_any step 10 800 W
  obtain ⟨s1, s2⟩ := within_true hst
  rw [hst] at hI
  have hT := Lib.hid fun (d : Int) W (h1 : 0 ≤ d) (h2 : d ≤ 2 * bung) hb => refVolumeTo_any s bung d A ss c W hR h1 h2 (At.below hat hb)
  have hb := hR.b
  obtain ⟨n, hn⟩ : ∃ n, ss.length = n := ⟨_, rfl⟩
  rw [hn] at hT ⊢
  obtain ⟨i0, hi, hz0, hz1, hz2⟩ := info_parts info143
  clear hst hR hat hn
  go_enter Try.func42, Try.ntmps42
  go_wp2_with (go_at_call 19; refine (hI.out _).mono ?_; rintro e w1 ⟨rfl, rfl⟩)
  go_loopw [6, 7] (fun v i wr => ∃ (k : Nat) (d : Int) (acc : List (Int × Int × Int)), k ≤ 161 ∧ i = .int .i64 d ∧ 0 ≤ d ∧ d ≤ 2 * bung + step ∧ Hid (TabAt bung ss step k d acc) ∧ wr.ownsRow (w.heap.size + 1) 143 3 v acc.length (acc.flatMap Rwc) ∧ Below w.heap.size w wr ∧ Below (w.heap.size + 1) (w.alloc (.cells #[.string s, .int .i64 bung, .slice A n c] 34 (0, 0))) wr) (fun _ i _ => (2 * bung + step + 1 - intOf i).toNat)
  case atStart => exact ⟨0, 0, [], by omega, rfl, by omega, by omega, ⟨rfl, by omega, rfl⟩, World.ownsRow_nil _ _ _ _, by go_grown, Below.refl _ _⟩
  case round =>
    obtain ⟨k, d, acc, hk, rfl, hd0, hd1, htab, hown, hbw, hb1⟩ := hrel
    have B0 : wr.heap[w.heap.size]? = some (.cells #[.string s, .int .i64 bung, .slice A n c] 34 (0, 0)) := by
      rw [hb1.block _ (by omega)]
      exact bk_new _ _ rfl
    have C0 := bk3 B0
    have hb1s : w.heap.size + 1 ≤ wr.heap.size := by have := hb1.size; simpa using this
    have hal : acc.length = k := htab.out.1
    have hkd := htab.out.2.1
    by_cases hlt : d ≤ 2 * bung
    · have hC := Lib.hid fun W hw => hT.out d W hd0 hlt hw
      have hgo := Lib.hid (tab_go htab.out (by omega) hlt s1)
      generalize toV bung d ss = T at *
      obtain ⟨T1, T2⟩ := T
      dsimp only at *
      have hown' := Lib.hid hown
      clear hown
      go_wp2_with (first
        | (at_builtin; refine wpList_append_own _ rfl _ _ 78 rfl (w.heap.size + 1) 143 i0 (.agg #[.int .i64 0, .int .i64 0, .int .i64 0]) 3 24 Try.underlying78 hi hz0 hz1 hz2 rfl (by decide) _ _ _ rfl (hown2.out.alloc _) ⟨w2.heap.size, 0, none⟩ 1 1 [.int .i64 d, .int .i64 T1, .int .i64 T2] rfl rfl ?c1 ?c2 ?c3 ?c4 ?c5 ?_)
        | (go_at_call 25; refine (hC.out _ hbw).mono ?_; rintro e w2 ⟨rfl, hb2⟩; have hbw := via hbw hb2; have hown2 := Lib.hid (owns_below hown'.out hb2); have hs2 := hb2.size))
      case c1 => exact cell_three_new _ _ _ _ _
      case c2 => intro u hu; simp at hu; rcases hu with rfl | rfl | rfl <;> rfl
      case c3 => unfold maxLen; omega
      case c4 => omega
      case c5 => simp; omega
      intro v' w3 hown3 hg3 _
      have hlt3 := hown2.out.lt
      have hbel : Below (w.heap.size + 1) (w.alloc (.cells #[.string s, .int .i64 bung, .slice A n c] 34 (0, 0))) w3 := ((hb1.trans (hb2.mono hb1s)).alloc (by omega) _).grown hg3 (by simp; omega) (fun r e => (hlt3 r e).1)
      have hbw3 : Below w.heap.size w w3 := (new_below _ _).trans (hbel.mono (by omega))
      have hown4 : w3.ownsRow (w.heap.size + 1) 143 3 v' (acc ++ [(d, T1, T2)]).length ((acc ++ [(d, T1, T2)]).flatMap Rwc) := by
        simpa [List.flatMap_append, Rwc, Nat.add_assoc, hal] using hown3
      have hown5 := Lib.hid hown4
      clear hown3 hown4 hg3 hlt3
      go_wp2
      go_roundw
      case rel => exact ⟨k + 1, d + step, acc ++ [(d, T1, T2)], by omega, rfl, by omega, by omega, hgo.out, hown5.out, hbw3, hbel⟩
      case measure => simp [intOf]; omega
    · have hend := tab_end htab.out (by omega) hlt
      obtain ⟨A3, cap, rfl, hat3⟩ := at_of_owns (cs := Rwc) (sz := 3) (fun _ => rfl) hown
      have hat3' := Lib.hid hat3
      have hend' := Lib.hid hend
      clear hat3 hown hend
      go_wp2
      go_ret2
      exact ⟨⟨A3, cap, by rw [hend'.out, hal]; rfl, by rw [hend'.out]; exact hat3'.out⟩, hbw⟩
end Go.Proofs
