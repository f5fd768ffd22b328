import Derived.Test.YtjfdjjekonkgjaaTb
import Derived.Test.YtjfdjjekonkgjaaNv
set_option linter.unusedSimpArgs false
set_option linter.unusedVariables false
namespace Go.Proofs
open Go.RowKit

def rdv (r : Rd) : Value := .agg #[.string r.c, .int .i64 r.d, .int .i64 r.lo, .int .i64 r.hi]
def Rd.zero : Rd := ⟨{ data := #[] }, 0, 0, 0⟩
def loOf (bung : Int) (ss : List St) (dip wrong : Int) : Int := (toV bung (if wrong < dip then dip - wrong else 0) ss).1
def hiOf (bung : Int) (ss : List St) (dip wrong : Int) : Int := (toV bung (if dip + wrong < 2 * bung then dip + wrong else 2 * bung) ss).2
/-- The gauging of a right cask by a right dip, or the error. -/
def fromV (s : ByteArray) (bung : Int) (ss : List St) (day dip wrong : Int) : Rd × Int :=
  if 100000 < hiOf bung ss dip wrong then (Rd.zero, 8) else (⟨s, day, loOf bung ss dip wrong, hiOf bung ss dip wrong⟩, 0)
def fromB (bung day dip wrong : Int) : Bool := within day 0 100000 && within dip 0 (wrap64 (2 * bung)) && within wrong 0 (wrap64 (2 * bung))
def fromE (E : Int) (bung day dip wrong : Int) : Int := firstE [E, unl (fromB bung day dip wrong) 2]
def fromDipV (s : ByteArray) (bung : Int) (ss : List St) (day dip wrong : Int) : Rd × Int :=
  if fromE (checkC s.data.toList bung ss).2 bung day dip wrong = 0 then fromV s bung ss day dip wrong else (Rd.zero, fromE (checkC s.data.toList bung ss).2 bung day dip wrong)

set_option maxRecDepth 100000 in
set_option maxHeartbeats 4000000 in
theorem fromDip_any (s : ByteArray) (bung : Int) (A : Option Addr) (ss : List St) (c : Nat) (day dip wrong : Int) (w : World) (hs : s.size ≤ 9223372036854775807) (hcap : ss.length ≤ c) (hat : At 3 St.cs w A ss) :
    Calls Try.prog 41 #[.agg #[.string s, .int .i64 bung, .slice A ss.length c], .agg #[.int .i64 day, .int .i64 dip, .int .i64 wrong]] w fun e w' =>
      e = .returned (.tuple #[rdv (fromDipV s bung ss day dip wrong).1, .int .i64 (fromDipV s bung ss day dip wrong).2]) ∧ Below w.heap.size w w' := by
  unfold fromDipV fromE
  have hO := Lib.hid fun W hb => open_any s bung A ss c W hs (At.below hat hb)
  have hR : Hid ((checkC s.data.toList bung ss).2 = 0 → RightC bung ss) := fun h => rightC_of h
  have hat' := Lib.hid hat
  generalize (checkC s.data.toList bung ss).2 = E at *
  clear hat
  have hI1 := Lib.hid fun W => isDay_any day W
  have hI2 := Lib.hid fun W => isDip_any s bung dip A ss.length c W
  have hI3 := Lib.hid fun W => isDip_any s bung wrong A ss.length c W
  have hfB : Hid (fromB bung day dip wrong = true → within day 0 100000 = true ∧ within dip 0 (wrap64 (2 * bung)) = true ∧ within wrong 0 (wrap64 (2 * bung)) = true) := fun h => by
    unfold fromB at h
    simpa [and_assoc] using h
  by_cases hz : firstE [E, unl (fromB bung day dip wrong) 2] = 0
  case neg =>
    rw [if_neg hz]
    have z2 : (firstE [E, unl (fromB bung day dip wrong) 2] != 0) = true := by simpa using hz
    unfold rdv Rd.zero
    dsimp only
    unfold fromB at *
    obtain ⟨b1, h1⟩ : ∃ b, within day 0 100000 = b := ⟨_, rfl⟩
    obtain ⟨b2, h2⟩ : ∃ b, within dip 0 (wrap64 (2 * bung)) = b := ⟨_, rfl⟩
    obtain ⟨b3, h3⟩ : ∃ b, within wrong 0 (wrap64 (2 * bung)) = b := ⟨_, rfl⟩
    rw [h1] at hI1
    rw [h2] at hI2
    rw [h3] at hI3
    rw [h1, h2, h3] at z2 ⊢
    clear hz hR hfB h1 h2 h3
    have hcase : b1 = false ∨ (b1 = true ∧ b2 = false) ∨ (b1 = true ∧ b2 = true ∧ b3 = false) ∨ (b1 = true ∧ b2 = true ∧ b3 = true) := by cases b1 <;> cases b2 <;> cases b3 <;> simp
    rcases hcase with rfl | ⟨rfl, rfl⟩ | ⟨rfl, rfl, rfl⟩ | ⟨rfl, rfl, rfl⟩
    all_goals
      simp only [Bool.and_self, Bool.and_false, Bool.false_and, Bool.true_and, Bool.and_true] at z2 ⊢
      go_enter Try.func41, Try.ntmps41
      go_wp2_with (first | (go_at_call 69; refine (hO.out _ ?_).mono ?_; (· go_grown); rintro e w1 ⟨rfl, hb⟩; have hbw := via (by go_grown : Below w.heap.size w _) hb; have hsw := hbw.size; have B0 : w1.heap[w.heap.size]? = some (.cells #[.string s, .int .i64 bung, .slice A ss.length c] 34 (0, 0)) := bk_keep hb (by (repeat (first | assumption | exact bk_new _ _ (by simp) | refine bk_drew ?_ | refine bk_alloc ?_ _ | refine bk_set ?_ (by simp <;> omega) _))); have B1 : w1.heap[w.heap.size + 1]? = some (.cells #[.int .i64 day, .int .i64 dip, .int .i64 wrong] 77 (0, 0)) := bk_keep hb (by (repeat (first | assumption | exact bk_new _ _ (by simp) | refine bk_drew ?_ | refine bk_alloc ?_ _ | refine bk_set ?_ (by simp <;> omega) _))); have B2 : w1.heap[w.heap.size + 1 + 1]? = some (.cells #[.string { data := #[] }, .int .i64 0, .int .i64 0, .int .i64 0] 73 (0, 0)) := bk_keep hb (by (repeat (first | assumption | exact bk_new _ _ (by simp) | refine bk_drew ?_ | refine bk_alloc ?_ _ | refine bk_set ?_ (by simp <;> omega) _))); have C0 := bk3 B0; have C1 := bk3 B1; have C2 := bk4 B2) | (go_at_call 72; refine Calls.mono (by with_reducible exact hI2.out _) ?_; rintro e w2 ⟨rfl, hb⟩; (have hbw := via (by go_grown : Below w.heap.size w _) hb; have hsw := hbw.size; have B3 : w2.heap[w1.heap.size]? = some (.cells #[.string s, .int .i64 bung, .slice A ss.length c] 115 (0, 0)) := bk_keep hb (by (repeat (first | assumption | exact bk_new _ _ (by simp) | refine bk_drew ?_ | refine bk_alloc ?_ _ | refine bk_set ?_ (by simp <;> omega) _))); have C3 := bk3 B3; replace B0 := bk_keep hb (bk_alloc B0 _); replace B1 := bk_keep hb (bk_alloc B1 _); replace B2 := bk_keep hb (bk_alloc B2 _); replace C0 := bk3 B0; replace C1 := bk3 B1; replace C2 := bk4 B2)) | (go_at_call 72; refine Calls.mono (by with_reducible exact hI3.out _) ?_; rintro e w3 ⟨rfl, hb⟩; (have hbw := via (by go_grown : Below w.heap.size w _) hb; have hsw := hbw.size; replace B3 := bk_keep hb B3; replace C3 := bk3 B3; replace B0 := bk_keep hb B0; replace B1 := bk_keep hb B1; replace B2 := bk_keep hb B2; replace C0 := bk3 B0; replace C1 := bk3 B1; replace C2 := bk4 B2)) | (go_at_call 96; refine (hI1.out _).mono ?_; rintro e w' ⟨rfl, rfl⟩) | (go_at_call 71; refine (unless_any _ _ _).mono ?_; rintro e w' ⟨rfl, rfl⟩) | (go_at_call 70; refine (first2n _ _ _ ?_).mono ?_; (· simp); rintro e w' ⟨rfl, rfl⟩))
    · have hx1 : w.heap.size + 1 + 1 < w1.heap.size + 1 := by have := bk_size B2; omega
      refine bodyPost_ret (v := .tuple #[.agg #[.string { data := #[] }, .int .i64 0, .int .i64 0, .int .i64 0], .int .i64 (firstE [E, unl false 2])]) ?_ rfl ⟨rfl, ?_⟩
      · simp [results, Try.results41, go_sem, C2, hx1]
      · go_grown
    · refine bodyPost_ret (v := .tuple #[.agg #[.string { data := #[] }, .int .i64 0, .int .i64 0, .int .i64 0], .int .i64 (firstE [E, unl false 2])]) ?_ rfl ⟨rfl, ?_⟩
      · simp [results, Try.results41, go_sem, C2]
      · go_grown
    · refine bodyPost_ret (v := .tuple #[.agg #[.string { data := #[] }, .int .i64 0, .int .i64 0, .int .i64 0], .int .i64 (firstE [E, unl false 2])]) ?_ rfl ⟨rfl, ?_⟩
      · simp [results, Try.results41, go_sem, C2]
      · go_grown
    · refine bodyPost_ret (v := .tuple #[.agg #[.string { data := #[] }, .int .i64 0, .int .i64 0, .int .i64 0], .int .i64 (firstE [E, unl true 2])]) ?_ rfl ⟨rfl, ?_⟩
      · simp [results, Try.results41, go_sem, C2]
      · go_grown
  rw [if_pos hz]
  obtain ⟨hE, hU⟩ := firstE2_zero hz
  have hB := unl_zero (by decide) hU
  obtain ⟨g1, g2, g3⟩ := hfB.out hB
  rw [g1] at hI1
  rw [g2] at hI2
  rw [g3] at hI3
  subst hE
  have hR1 := hR.out rfl
  rw [wrap_bung hR1] at g2 g3
  obtain ⟨d1, d2⟩ := within_true g2
  obtain ⟨e1, e2⟩ := within_true g3
  have hbb := hR1.b
  have hT := Lib.hid fun (d : Int) W (h1 : 0 ≤ d) (h2 : d ≤ 2 * bung) hb => to_any s bung d A ss c W hR1 h1 h2 hcap (At.below hat'.out hb)
  have hF := Lib.hid fun W => full_any s bung A ss.length c W
  rw [wrap_bung hR1] at hF
  unfold fromV loOf hiOf
  obtain ⟨M1, hM1⟩ : ∃ m, (if wrong < dip then dip - wrong else 0) = m := ⟨_, rfl⟩
  obtain ⟨M2, hM2⟩ : ∃ m, (if dip + wrong < 2 * bung then dip + wrong else 2 * bung) = m := ⟨_, rfl⟩
  rw [hM1, hM2]
  have k1 : 0 ≤ M1 ∧ M1 ≤ 2 * bung := by rw [← hM1]; split <;> omega
  have k2 : 0 ≤ M2 ∧ M2 ≤ 2 * bung := by rw [← hM2]; split <;> omega
  have hT1 := Lib.hid fun W hb => hT.out M1 W k1.1 k1.2 hb
  have hT2 := Lib.hid fun W hb => hT.out M2 W k2.1 k2.2 hb
  generalize toV bung M1 ss = T at *
  generalize toV bung M2 ss = U at *
  obtain ⟨T1, T2⟩ := T
  obtain ⟨U1, U2⟩ := U
  dsimp only at *
  have z2 : (firstE [0, unl true 2] != 0) = false := rfl
  have hr1 : IntKind.i64.wrap (dip - wrong) = dip - wrong := IntWalk.i64_in _ (by omega)
  have hr2 : IntKind.i64.wrap (dip + wrong) = dip + wrong := IntWalk.i64_in _ (by omega)
  clear hz hB hU hR hR1 g1 g2 g3 hT hfB k1 k2
  unfold rdv Rd.zero
  by_cases h100 : 100000 < U2
  · rw [if_pos h100]
    dsimp only
    go_enter Try.func41, Try.ntmps41
    go_wp2_with (first | (go_at_call 69; refine (hO.out _ ?_).mono ?_; (· go_grown); rintro e w1 ⟨rfl, hb⟩; have hbw := via (by go_grown : Below w.heap.size w _) hb; have hsw := hbw.size; have B0 : w1.heap[w.heap.size]? = some (.cells #[.string s, .int .i64 bung, .slice A ss.length c] 34 (0, 0)) := bk_keep hb (by (repeat (first | assumption | exact bk_new _ _ (by simp) | refine bk_drew ?_ | refine bk_alloc ?_ _ | refine bk_set ?_ (by simp <;> omega) _))); have B1 : w1.heap[w.heap.size + 1]? = some (.cells #[.int .i64 day, .int .i64 dip, .int .i64 wrong] 77 (0, 0)) := bk_keep hb (by (repeat (first | assumption | exact bk_new _ _ (by simp) | refine bk_drew ?_ | refine bk_alloc ?_ _ | refine bk_set ?_ (by simp <;> omega) _))); have B2 : w1.heap[w.heap.size + 1 + 1]? = some (.cells #[.string { data := #[] }, .int .i64 0, .int .i64 0, .int .i64 0] 73 (0, 0)) := bk_keep hb (by (repeat (first | assumption | exact bk_new _ _ (by simp) | refine bk_drew ?_ | refine bk_alloc ?_ _ | refine bk_set ?_ (by simp <;> omega) _))); have C0 := bk3 B0; have C1 := bk3 B1; have C2 := bk4 B2) | (go_at_call 72; refine Calls.mono (by with_reducible exact hI2.out _) ?_; rintro e w2 ⟨rfl, hb⟩; (have hbw := via (by go_grown : Below w.heap.size w _) hb; have hsw := hbw.size; have B3 : w2.heap[w1.heap.size]? = some (.cells #[.string s, .int .i64 bung, .slice A ss.length c] 115 (0, 0)) := bk_keep hb (by (repeat (first | assumption | exact bk_new _ _ (by simp) | refine bk_drew ?_ | refine bk_alloc ?_ _ | refine bk_set ?_ (by simp <;> omega) _))); have C3 := bk3 B3; replace B0 := bk_keep hb (bk_alloc B0 _); replace B1 := bk_keep hb (bk_alloc B1 _); replace B2 := bk_keep hb (bk_alloc B2 _); replace C0 := bk3 B0; replace C1 := bk3 B1; replace C2 := bk4 B2)) | (go_at_call 72; refine Calls.mono (by with_reducible exact hI3.out _) ?_; rintro e w3 ⟨rfl, hb⟩; (have hbw := via (by go_grown : Below w.heap.size w _) hb; have hsw := hbw.size; replace B3 := bk_keep hb B3; replace C3 := bk3 B3; replace B0 := bk_keep hb B0; replace B1 := bk_keep hb B1; replace B2 := bk_keep hb B2; replace C0 := bk3 B0; replace C1 := bk3 B1; replace C2 := bk4 B2)) | (go_at_call 96; refine (hI1.out _).mono ?_; rintro e w' ⟨rfl, rfl⟩) | (go_at_call 71; refine (unless_any _ _ _).mono ?_; rintro e w' ⟨rfl, rfl⟩) | (go_at_call 70; refine (first2n _ _ _ ?_).mono ?_; (· simp); rintro e w' ⟨rfl, rfl⟩))
    refine wp_world ?_
    intro W hW_W
    have hb_W : Below w.heap.size w W := by rw [hW_W]; go_grown
    obtain ⟨bC, hC⟩ : ∃ n, w1.heap.size = n := ⟨_, rfl⟩
    rw [hC]
    have D0 : W.heap[w.heap.size]? = some (.cells #[.string s, .int .i64 bung, .slice A ss.length c] 34 (0, 0)) := by rw [hW_W]; exact bk_alloc B0 _
    have D1 : W.heap[w.heap.size + 1]? = some (.cells #[.int .i64 day, .int .i64 dip, .int .i64 wrong] 77 (0, 0)) := by rw [hW_W]; exact bk_alloc B1 _
    have D2 : W.heap[w.heap.size + 1 + 1]? = some (.cells #[.string { data := #[] }, .int .i64 0, .int .i64 0, .int .i64 0] 73 (0, 0)) := by rw [hW_W]; exact bk_alloc B2 _
    have D3 : W.heap[bC]? = some (.cells #[.string s, .int .i64 bung, .slice A ss.length c] 115 (0, 0)) := by rw [hW_W, ← hC]; exact bk_alloc B3 _
    clear hW_W hC B0 B1 B2 B3 C0 C1 C2 C3 hbw hb hsw
    apply region_store w 26 27 8 (.cells #[.string { data := #[] }, .int .i64 0, .int .i64 0, .int .i64 0] 73 (0, 0)) (.cells #[.string s, .int .i64 day, .int .i64 T1, .int .i64 U2] 73 (0, 0))
    case hm => kernel_rfl
    case hB => kernel_rfl
    case hB' => kernel_rfl
    case hS => kernel_rfl
    case hN => kernel_rfl
    case hw => exact hb_W
    case hal => intro o ho; simp at ho; subst ho; intro a x; kernel_rfl
    case hq =>
      intro u hu hgc hbx hbX
      have E0 := bk3 (bk_keep hu D0)
      have E1 := bk3 (bk_keep hu D1)
      have E3 := bk3 (bk_keep hu D3)
      have hfd1 : ∀ W : World, Sem.run Try.prog (Instr.field 24 (.agg #[.int .i64 T1, .int .i64 T2]) 0) W = .ok (.int .i64 T1) W := fun _ => by kernel_rfl
      have hfd2 : ∀ W : World, Sem.run Try.prog (Instr.field 24 (.agg #[.int .i64 U1, .int .i64 U2]) 1) W = .ok (.int .i64 U2) W := fun _ => by kernel_rfl
      simp only [dummyAt, struck, Nat.reduceAdd, Nat.reduceBEq, Nat.zero_add, Bool.or_false, Bool.or_true, Bool.false_or, Bool.true_or, Bool.false_eq_true, if_true, if_false, Bool.or_self]
      repeat (go_big_quiet_step (first
        | (go_at_call 93; exact Grew.call (hF.out _))
        | (go_at_call 73; with_reducible exact Grew.call (hT1.out _ (hbx.out _)))
        | (go_at_call 73; with_reducible exact Grew.call (hT2.out _ (hbx.out _)))))
      exact wpQuiet_nil rfl
    case hst =>
      intro o ho B x hx hB hz
      simp at ho
      subst ho
      have Cz := bk4 hz
      refine ⟨(((x.setCell ⟨B, 0, none⟩ (.string s)).setCell ⟨B, 1, none⟩ (.int .i64 day)).setCell ⟨B, 2, none⟩ (.int .i64 T1)).setCell ⟨B, 3, none⟩ (.int .i64 U2), by simp [execOp, go_sem, Act.put, Cz], below_in (below_in (below_in (below_in hx hB _) hB _) hB _) hB _, bk_here (bk_here (bk_here (bk_here hz _ rfl) _ rfl) _ rfl) _ rfl⟩
    case h =>
      intro B x hB hx hw hz
      simp only [Act.put, List.setIfInBounds_toArray, List.set_cons_succ, List.set_cons_zero]
      have CG := bk4 hz
      have hsz := hx.size
      have hsz2 := hb_W.size
      replace D2 := bk_keep hx D2
      have C2 := bk4 D2
      go_wp2
      refine bodyPost_ret (v := .tuple #[.agg #[.string { data := #[] }, .int .i64 0, .int .i64 0, .int .i64 0], .int .i64 8]) ?_ rfl ⟨rfl, ?_⟩
      · simp [results, Try.results41, go_sem, C2, CG]
      · go_grown
  · rw [if_neg h100]
    dsimp only
    go_enter Try.func41, Try.ntmps41
    go_wp2_with (first | (go_at_call 69; refine (hO.out _ ?_).mono ?_; (· go_grown); rintro e w1 ⟨rfl, hb⟩; have hbw := via (by go_grown : Below w.heap.size w _) hb; have hsw := hbw.size; have B0 : w1.heap[w.heap.size]? = some (.cells #[.string s, .int .i64 bung, .slice A ss.length c] 34 (0, 0)) := bk_keep hb (by (repeat (first | assumption | exact bk_new _ _ (by simp) | refine bk_drew ?_ | refine bk_alloc ?_ _ | refine bk_set ?_ (by simp <;> omega) _))); have B1 : w1.heap[w.heap.size + 1]? = some (.cells #[.int .i64 day, .int .i64 dip, .int .i64 wrong] 77 (0, 0)) := bk_keep hb (by (repeat (first | assumption | exact bk_new _ _ (by simp) | refine bk_drew ?_ | refine bk_alloc ?_ _ | refine bk_set ?_ (by simp <;> omega) _))); have B2 : w1.heap[w.heap.size + 1 + 1]? = some (.cells #[.string { data := #[] }, .int .i64 0, .int .i64 0, .int .i64 0] 73 (0, 0)) := bk_keep hb (by (repeat (first | assumption | exact bk_new _ _ (by simp) | refine bk_drew ?_ | refine bk_alloc ?_ _ | refine bk_set ?_ (by simp <;> omega) _))); have C0 := bk3 B0; have C1 := bk3 B1; have C2 := bk4 B2) | (go_at_call 72; refine Calls.mono (by with_reducible exact hI2.out _) ?_; rintro e w2 ⟨rfl, hb⟩; (have hbw := via (by go_grown : Below w.heap.size w _) hb; have hsw := hbw.size; have B3 : w2.heap[w1.heap.size]? = some (.cells #[.string s, .int .i64 bung, .slice A ss.length c] 115 (0, 0)) := bk_keep hb (by (repeat (first | assumption | exact bk_new _ _ (by simp) | refine bk_drew ?_ | refine bk_alloc ?_ _ | refine bk_set ?_ (by simp <;> omega) _))); have C3 := bk3 B3; replace B0 := bk_keep hb (bk_alloc B0 _); replace B1 := bk_keep hb (bk_alloc B1 _); replace B2 := bk_keep hb (bk_alloc B2 _); replace C0 := bk3 B0; replace C1 := bk3 B1; replace C2 := bk4 B2)) | (go_at_call 72; refine Calls.mono (by with_reducible exact hI3.out _) ?_; rintro e w3 ⟨rfl, hb⟩; (have hbw := via (by go_grown : Below w.heap.size w _) hb; have hsw := hbw.size; replace B3 := bk_keep hb B3; replace C3 := bk3 B3; replace B0 := bk_keep hb B0; replace B1 := bk_keep hb B1; replace B2 := bk_keep hb B2; replace C0 := bk3 B0; replace C1 := bk3 B1; replace C2 := bk4 B2)) | (go_at_call 96; refine (hI1.out _).mono ?_; rintro e w' ⟨rfl, rfl⟩) | (go_at_call 71; refine (unless_any _ _ _).mono ?_; rintro e w' ⟨rfl, rfl⟩) | (go_at_call 70; refine (first2n _ _ _ ?_).mono ?_; (· simp); rintro e w' ⟨rfl, rfl⟩))
    refine wp_world ?_
    intro W hW_W
    have hb_W : Below w.heap.size w W := by rw [hW_W]; go_grown
    obtain ⟨bC, hC⟩ : ∃ n, w1.heap.size = n := ⟨_, rfl⟩
    rw [hC]
    have D0 : W.heap[w.heap.size]? = some (.cells #[.string s, .int .i64 bung, .slice A ss.length c] 34 (0, 0)) := by rw [hW_W]; exact bk_alloc B0 _
    have D1 : W.heap[w.heap.size + 1]? = some (.cells #[.int .i64 day, .int .i64 dip, .int .i64 wrong] 77 (0, 0)) := by rw [hW_W]; exact bk_alloc B1 _
    have D2 : W.heap[w.heap.size + 1 + 1]? = some (.cells #[.string { data := #[] }, .int .i64 0, .int .i64 0, .int .i64 0] 73 (0, 0)) := by rw [hW_W]; exact bk_alloc B2 _
    have D3 : W.heap[bC]? = some (.cells #[.string s, .int .i64 bung, .slice A ss.length c] 115 (0, 0)) := by rw [hW_W, ← hC]; exact bk_alloc B3 _
    clear hW_W hC B0 B1 B2 B3 C0 C1 C2 C3 hbw hb hsw
    apply region_store w 26 27 8 (.cells #[.string { data := #[] }, .int .i64 0, .int .i64 0, .int .i64 0] 73 (0, 0)) (.cells #[.string s, .int .i64 day, .int .i64 T1, .int .i64 U2] 73 (0, 0))
    case hm => kernel_rfl
    case hB => kernel_rfl
    case hB' => kernel_rfl
    case hS => kernel_rfl
    case hN => kernel_rfl
    case hw => exact hb_W
    case hal => intro o ho; simp at ho; subst ho; intro a x; kernel_rfl
    case hq =>
      intro u hu hgc hbx hbX
      have E0 := bk3 (bk_keep hu D0)
      have E1 := bk3 (bk_keep hu D1)
      have E3 := bk3 (bk_keep hu D3)
      have hfd1 : ∀ W : World, Sem.run Try.prog (Instr.field 24 (.agg #[.int .i64 T1, .int .i64 T2]) 0) W = .ok (.int .i64 T1) W := fun _ => by kernel_rfl
      have hfd2 : ∀ W : World, Sem.run Try.prog (Instr.field 24 (.agg #[.int .i64 U1, .int .i64 U2]) 1) W = .ok (.int .i64 U2) W := fun _ => by kernel_rfl
      simp only [dummyAt, struck, Nat.reduceAdd, Nat.reduceBEq, Nat.zero_add, Bool.or_false, Bool.or_true, Bool.false_or, Bool.true_or, Bool.false_eq_true, if_true, if_false, Bool.or_self]
      repeat (go_big_quiet_step (first
        | (go_at_call 93; exact Grew.call (hF.out _))
        | (go_at_call 73; with_reducible exact Grew.call (hT1.out _ (hbx.out _)))
        | (go_at_call 73; with_reducible exact Grew.call (hT2.out _ (hbx.out _)))))
      exact wpQuiet_nil rfl
    case hst =>
      intro o ho B x hx hB hz
      simp at ho
      subst ho
      have Cz := bk4 hz
      refine ⟨(((x.setCell ⟨B, 0, none⟩ (.string s)).setCell ⟨B, 1, none⟩ (.int .i64 day)).setCell ⟨B, 2, none⟩ (.int .i64 T1)).setCell ⟨B, 3, none⟩ (.int .i64 U2), by simp [execOp, go_sem, Act.put, Cz], below_in (below_in (below_in (below_in hx hB _) hB _) hB _) hB _, bk_here (bk_here (bk_here (bk_here hz _ rfl) _ rfl) _ rfl) _ rfl⟩
    case h =>
      intro B x hB hx hw hz
      simp only [Act.put, List.setIfInBounds_toArray, List.set_cons_succ, List.set_cons_zero]
      have CG := bk4 hz
      have hsz := hx.size
      have hsz2 := hb_W.size
      replace D2 := bk_keep hx D2
      have C2 := bk4 D2
      go_wp2
      refine bodyPost_ret (v := .tuple #[.agg #[.string s, .int .i64 day, .int .i64 T1, .int .i64 U2], .int .i64 0]) ?_ rfl ⟨rfl, ?_⟩
      · simp [results, Try.results41, go_sem, C2, CG]
      · go_grown
end Go.Proofs
