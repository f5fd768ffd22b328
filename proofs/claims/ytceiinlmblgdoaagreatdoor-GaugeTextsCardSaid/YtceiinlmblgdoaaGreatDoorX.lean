import Derived.Test.YtceiinlmblgdoaaGreatDoorW
set_option linter.unusedSimpArgs false
set_option linter.unusedVariables false
namespace Go.Proofs
open Go.RowKit

def volToE (s : List UInt8) (bung : Int) (ss : List St) (dip : Int) : Int := firstE [(checkC s bung ss).2, unl (within dip 0 (wrap64 (2 * bung))) 2]
def volToV (s : List UInt8) (bung : Int) (ss : List St) (dip : Int) : Int × Int := if volToE s bung ss dip = 0 then toV bung dip ss else (0, 0)
theorem firstE2_zero {a b : Int} (h : firstE [a, b] = 0) : a = 0 ∧ b = 0 := by
  simp only [firstE] at h
  by_cases ha : a = 0 <;> by_cases hb : b = 0 <;> simp [ha, hb] at h ⊢
theorem unl_zero {b : Bool} {n : Int} (hn : n ≠ 0) (h : unl b n = 0) : b = true := by
  unfold unl at h
  cases b
  · exact (hn h).elim
  · rfl

set_option maxRecDepth 100000 in
set_option maxHeartbeats 1000000 in
theorem volumeTo_any (s : ByteArray) (bung : Int) (A : Option Addr) (ss : List St) (c : Nat) (dip : Int) (w : World) (hs : s.size ≤ 9223372036854775807) (hcap : ss.length ≤ c) (hat : At 3 St.cs w A ss) :
    Calls Tryz.prog 14 #[.agg #[.string s, .int .i64 bung, .slice A ss.length c], .int .i64 dip] w fun e w' =>
      e = .returned (.tuple #[.agg #[.int .i64 (volToV s.data.toList bung ss dip).1, .int .i64 (volToV s.data.toList bung ss dip).2], .int .i64 (volToE s.data.toList bung ss dip)]) ∧ Below w.heap.size w w' := by
  unfold volToV
  obtain ⟨Z, hZ⟩ : ∃ Z, volToE s.data.toList bung ss dip = Z := ⟨_, rfl⟩
  have hO := Lib.hid fun W hb => open_any s bung A ss c W hs (At.below hat hb)
  rw [hZ]
  have hR : Hid (Z = 0 → RightC bung ss ∧ 0 ≤ dip ∧ dip ≤ 2 * bung) := fun hz => by
    rw [hz] at hZ
    obtain ⟨h1, h2⟩ := firstE2_zero hZ
    have hr := rightC_of h1
    have h3 := within_true (unl_zero (by decide) h2)
    have hb := hr.b
    have : wrap64 (2 * bung) = 2 * bung := by unfold wrap64; omega
    rw [this] at h3
    exact ⟨hr, h3⟩
  have hat' := Lib.hid hat
  unfold volToE at hZ
  generalize (checkC s.data.toList bung ss).2 = E at *
  obtain ⟨D, hD⟩ : ∃ D, within dip 0 (wrap64 (2 * bung)) = D := ⟨_, rfl⟩
  have hI := Lib.hid fun W => isDip_any s bung dip A ss.length c W
  rw [hD] at hZ hI
  clear hD hat
  by_cases hz : Z = 0
  · rw [if_pos hz]
    obtain ⟨hR1, hd1, hd2⟩ := hR.out hz
    have hT := Lib.hid fun W hb => to_any s bung dip A ss c W hR1 hd1 hd2 hcap (At.below hat'.out hb)
    rw [hz] at hZ
    subst hz
    generalize toV bung dip ss = T at *
    obtain ⟨T1, T2⟩ := T
    dsimp only at *
    have hne : (firstE [E, unl D 2] != 0) = false := by simp [hZ]
    clear hR1 hR hZ
    go_enter Tryz.func14, Tryz.ntmps14
    go_wp2_with (first
      | (go_at_call 38; refine (hO.out _ ?_).mono ?_; (· go_grown); rintro e w1 ⟨rfl, hb⟩; have hcc := gcell hb; have hff := gfrozen hb; have hbw := via (by go_grown : Below w.heap.size w _) hb; have hz0 : w.heap.size < w1.heap.size := (by have := hb.size; simp at this; omega); have hz1 : w.heap.size + 1 < w1.heap.size := (by have := hb.size; simp at this; omega))
      | (go_at_call 39; refine (hI.out _).mono ?_; rintro e w2 ⟨rfl, hb2⟩; have hcc2 := gcell hb2; have hff2 := gfrozen hb2; have hbw2 := via (by go_grown : Below w.heap.size w _) hb2; have hz2 : w1.heap.size < w2.heap.size := (by have := hb2.size; simp at this; omega); have hz3 : w.heap.size < w2.heap.size := (by omega); have hz4 : w.heap.size + 1 < w2.heap.size := (by omega))
      | (go_at_call 36; refine (unless_any _ _ _).mono ?_; rintro e w' ⟨rfl, rfl⟩)
      | (go_at_call 32; refine (first2 _ _ _).mono ?_; rintro e w' ⟨rfl, rfl⟩)
      | (go_at_call 40; refine (hT.out _ ?_).mono ?_; (· go_grown); rintro e w3 ⟨rfl, hb3⟩; have hcc3 := gcell hb3; have hff3 := gfrozen hb3; have hbw3 := via (by go_grown : Below w.heap.size w _) hb3; have hz5 : w.heap.size + 1 < w3.heap.size := (by have := hb3.size; simp at this; omega)))
    refine bodyPost_ret (v := .tuple #[.agg #[.int .i64 T1, .int .i64 T2], .int .i64 0]) ?_ rfl ⟨rfl, ?_⟩
    · simp [results, Tryz.results14, go_sem, hcc, hff, hcc2, hff2, hcc3, hff3, hz0, hz1, hz2, hz3, hz4, hz5]
    · go_grown
  · rw [if_neg hz]
    have hne : (firstE [E, unl D 2] != 0) = true := by simp [hZ, hz]
    have hZ' := Lib.hid hZ
    clear hZ hR hz
    go_enter Tryz.func14, Tryz.ntmps14
    go_wp2_with (first
      | (go_at_call 38; refine (hO.out _ ?_).mono ?_; (· go_grown); rintro e w1 ⟨rfl, hb⟩; have hcc := gcell hb; have hff := gfrozen hb; have hbw := via (by go_grown : Below w.heap.size w _) hb; have hz0 : w.heap.size < w1.heap.size := (by have := hb.size; simp at this; omega); have hz1 : w.heap.size + 1 < w1.heap.size := (by have := hb.size; simp at this; omega))
      | (go_at_call 39; refine (hI.out _).mono ?_; rintro e w2 ⟨rfl, hb2⟩; have hcc2 := gcell hb2; have hff2 := gfrozen hb2; have hbw2 := via (by go_grown : Below w.heap.size w _) hb2; have hz2 : w1.heap.size < w2.heap.size := (by have := hb2.size; simp at this; omega); have hz3 : w.heap.size < w2.heap.size := (by omega); have hz4 : w.heap.size + 1 < w2.heap.size := (by omega))
      | (go_at_call 36; refine (unless_any _ _ _).mono ?_; rintro e w' ⟨rfl, rfl⟩)
      | (go_at_call 32; refine (first2 _ _ _).mono ?_; rintro e w' ⟨rfl, rfl⟩))
    refine bodyPost_ret (v := .tuple #[.agg #[.int .i64 0, .int .i64 0], .int .i64 Z]) ?_ rfl ⟨rfl, ?_⟩
    · simp [results, Tryz.results14, go_sem, hcc, hff, hcc2, hff2, hz0, hz1, hz2, hz3, hz4, hZ'.out]
    · go_grown
end Go.Proofs
