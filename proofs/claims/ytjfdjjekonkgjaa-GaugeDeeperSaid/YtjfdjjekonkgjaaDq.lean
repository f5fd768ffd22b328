import Derived.Test.YtjfdjjekonkgjaaDp
import Derived.Deep.RegionHeld3
import Derived.Deep.DeepCutAuto
set_option linter.unusedSimpArgs false
set_option linter.unusedVariables false
namespace Go.Proofs
open Go.RowKit

def pLo (bung : Int) (ss : List St) (vol : Int) (d : Nat) : Bool := decide (vol ≤ (toV bung d ss).2)
def pHi (bung : Int) (ss : List St) (vol : Int) (d : Nat) : Bool := decide (vol < (toV bung d ss).1)
theorem pLo_up {bung : Int} {ss : List St} {vol : Int} (hR : RightC bung ss) : ∀ i j, i ≤ j → pLo bung ss vol i = true → pLo bung ss vol j = true := fun i j h => by
  unfold pLo
  have := toV_deeper hR (dip := i) (dip' := j) (by omega)
  simp only [decide_eq_true_eq]
  omega
theorem pHi_up {bung : Int} {ss : List St} {vol : Int} (hR : RightC bung ss) : ∀ i j, i ≤ j → pHi bung ss vol i = true → pHi bung ss vol j = true := fun i j h => by
  unfold pHi
  have := toV_deeper hR (dip := i) (dip' := j) (by omega)
  simp only [decide_eq_true_eq]
  omega
set_option maxRecDepth 100000 in
theorem clo99 (b1 b2 : Nat) (s : ByteArray) (bung vol : Int) (A : Option Addr) (ss : List St) (c : Nat) (d : Nat) (w : World) (hR : RightC bung ss) (hcap : ss.length ≤ c) (hat : At 3 St.cs w A ss) (hd : (d : Int) ≤ 2 * bung)
    (hB1 : w.heap[b1]? = some (.cells #[.string s, .int .i64 bung, .slice A ss.length c] 115 (0, 0))) (hB2 : w.heap[b2]? = some (.cells #[.int .i64 vol] 3 (0, 0))) :
    Calls Try.prog 99 #[.int .i64 d, .pointer (some ⟨b1, 0, none⟩), .pointer (some ⟨b2, 0, none⟩)] w fun e w' => e = .returned (.bool (pLo bung ss vol d)) ∧ Below w.heap.size w w' := by
  unfold pLo
  have hT := Lib.hid fun W hb => to_any s bung d A ss c W hR (by omega) hd hcap (At.below hat hb)
  generalize toV bung d ss = T at *
  obtain ⟨T1, T2⟩ := T
  dsimp only at *
  have hfd : ∀ W : World, Sem.run Try.prog (Instr.field 24 (.agg #[.int .i64 T1, .int .i64 T2]) 1) W = .ok (.int .i64 T2) W := fun _ => by kernel_rfl
  have C1 := bk3 hB1
  have C2 := bk1 hB2
  clear hR hat
  go_enter Try.func99, Try.ntmps99
  go_wp2_with fail
  refine region_all w (by kernel_rfl) (by kernel_rfl) (by go_grown) ?_
  intro hgc hbx
  repeat (go_big_quiet_step ((go_at_call 73; exact Grew.call (hT.out _ (hbx.out _)))))
  refine wpQuiet_nil ?_
  intro w1 hb1 hw1 hs1
  clear hgc hbx
  go_wp2
  go_ret
  exact ⟨rfl, hw1⟩
set_option maxRecDepth 100000 in
theorem clo100 (b1 b2 : Nat) (s : ByteArray) (bung vol : Int) (A : Option Addr) (ss : List St) (c : Nat) (d : Nat) (w : World) (hR : RightC bung ss) (hcap : ss.length ≤ c) (hat : At 3 St.cs w A ss) (hd : (d : Int) ≤ 2 * bung)
    (hB1 : w.heap[b1]? = some (.cells #[.string s, .int .i64 bung, .slice A ss.length c] 115 (0, 0))) (hB2 : w.heap[b2]? = some (.cells #[.int .i64 vol] 3 (0, 0))) :
    Calls Try.prog 100 #[.int .i64 d, .pointer (some ⟨b1, 0, none⟩), .pointer (some ⟨b2, 0, none⟩)] w fun e w' => e = .returned (.bool (pHi bung ss vol d)) ∧ Below w.heap.size w w' := by
  unfold pHi
  have hT := Lib.hid fun W hb => to_any s bung d A ss c W hR (by omega) hd hcap (At.below hat hb)
  generalize toV bung d ss = T at *
  obtain ⟨T1, T2⟩ := T
  dsimp only at *
  have hfd : ∀ W : World, Sem.run Try.prog (Instr.field 24 (.agg #[.int .i64 T1, .int .i64 T2]) 0) W = .ok (.int .i64 T1) W := fun _ => by kernel_rfl
  have C1 := bk3 hB1
  have C2 := bk1 hB2
  clear hR hat
  go_enter Try.func100, Try.ntmps100
  go_wp2_with fail
  refine region_all w (by kernel_rfl) (by kernel_rfl) (by go_grown) ?_
  intro hgc hbx
  repeat (go_big_quiet_step ((go_at_call 73; exact Grew.call (hT.out _ (hbx.out _)))))
  refine wpQuiet_nil ?_
  intro w1 hb1 hw1 hs1
  clear hgc hbx
  go_wp2
  go_ret
  exact ⟨rfl, hw1⟩
end Go.Proofs
