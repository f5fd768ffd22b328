import Derived.Test.YtjfdjjekonkgjaaDq
import Derived.Test.YtjfdjjekonkgjaaFx
import Derived.Test.YtjfdjjekonkgjaaNt
set_option linter.unusedSimpArgs false
set_option linter.unusedVariables false
namespace Go.Proofs
open Go.RowKit

def dLo (bung : Int) (ss : List St) (vol : Int) : Int := (fst (pLo bung ss vol) (2 * bung + 1).toNat : Nat)
def dHi (bung : Int) (ss : List St) (vol : Int) : Int := (fst (pHi bung ss vol) (2 * bung + 1).toNat : Nat) - 1
/-- The dips of a volume of a right cask, or the error. -/
def dipV (bung : Int) (ss : List St) (vol : Int) : (Int × Int) × Int :=
  if within vol 0 100000 = true then (if dHi bung ss vol < dLo bung ss vol then ((0, 0), 12) else ((dLo bung ss vol, dHi bung ss vol), 0)) else ((0, 0), 2)
def dipOfV (s : List UInt8) (bung : Int) (ss : List St) (vol : Int) : (Int × Int) × Int :=
  if (checkC s bung ss).2 = 0 then dipV bung ss vol else ((0, 0), (checkC s bung ss).2)

set_option maxRecDepth 100000 in
set_option maxHeartbeats 800000 in
theorem dipOf_any (s : ByteArray) (bung : Int) (A : Option Addr) (ss : List St) (c : Nat) (vol : Int) (w : World) (hs : s.size ≤ 9223372036854775807) (hcap : ss.length ≤ c) (hat : At 3 St.cs w A ss) :
    Calls Try.prog 45 #[.agg #[.string s, .int .i64 bung, .slice A ss.length c], .int .i64 vol] w fun e w' =>
      e = .returned (.tuple #[.agg #[.int .i64 (dipOfV s.data.toList bung ss vol).1.1, .int .i64 (dipOfV s.data.toList bung ss vol).1.2], .int .i64 (dipOfV s.data.toList bung ss vol).2]) ∧ Below w.heap.size w w' := by
  unfold dipOfV
  have hO := Lib.hid fun W hb => open_any s bung A ss c W hs (At.below hat hb)
  have hR : Hid ((checkC s.data.toList bung ss).2 = 0 → RightC bung ss) := fun h => rightC_of h
  have hat' := Lib.hid hat
  generalize (checkC s.data.toList bung ss).2 = E at *
  clear hat
  have hI := Lib.hid fun W => isVolume_any vol W
  by_cases hz : E = 0
  case neg =>
    rw [if_neg hz]
    obtain ⟨D, hD⟩ : ∃ D, within vol 0 100000 = D := ⟨_, rfl⟩
    rw [hD] at hI
    clear hD
    have e1 : firstE [E, unl D 2] = E := by simp [firstE, hz]
    have e2 := Lib.hid e1
    have z2 : (firstE [E, unl D 2] != 0) = true := by rw [e1]; simpa using hz
    clear hz hR e1
    go_enter Try.func45, Try.ntmps45
    go_wp2_with (first | (go_at_call 69; refine (hO.out _ ?_).mono ?_; (· go_grown); rintro e w1 ⟨rfl, hb⟩; have hbw := via (by go_grown : Below w.heap.size w _) hb; have B1 : w1.heap[w.heap.size + 1]? = some (.cells #[.int .i64 vol] 3 (0, 0)) := bk_keep hb (by (repeat (first | assumption | exact bk_new _ _ (by simp) | refine bk_drew ?_ | refine bk_alloc ?_ _ | refine bk_set ?_ (by simp <;> omega) _))); have B2 : w1.heap[w.heap.size + 1 + 1]? = some (.cells #[.int .i64 0, .int .i64 0] 24 (0, 0)) := bk_keep hb (by (repeat (first | assumption | exact bk_new _ _ (by simp) | refine bk_drew ?_ | refine bk_alloc ?_ _ | refine bk_set ?_ (by simp <;> omega) _))); have C1 := bk1 B1; have C2 := bk2 B2) | (go_at_call 97; refine (hI.out _).mono ?_; rintro e w' ⟨rfl, rfl⟩) | (go_at_call 71; refine (unless_any _ _ _).mono ?_; rintro e w' ⟨rfl, rfl⟩) | (go_at_call 70; refine (first2n _ _ _ ?_).mono ?_; (· simp); rintro e w' ⟨rfl, rfl⟩))
    refine bodyPost_ret (v := .tuple #[.agg #[.int .i64 0, .int .i64 0], .int .i64 E]) ?_ rfl ⟨rfl, ?_⟩
    · simp [results, Try.results45, go_sem, C2, C1, e2.out]
    · go_grown
  subst hz
  rw [if_pos rfl]
  unfold dipV
  have hR1 := hR.out rfl
  have hbb := hR1.b
  cases hD : within vol 0 100000
  · rw [if_neg (by decide)]
    rw [hD] at hI
    have e1 : firstE [0, unl false 2] = 2 := rfl
    have e2 := Lib.hid e1
    have z2 : (firstE [0, unl false 2] != 0) = true := rfl
    clear hD hR hR1 e1
    go_enter Try.func45, Try.ntmps45
    go_wp2_with (first | (go_at_call 69; refine (hO.out _ ?_).mono ?_; (· go_grown); rintro e w1 ⟨rfl, hb⟩; have hbw := via (by go_grown : Below w.heap.size w _) hb; have B1 : w1.heap[w.heap.size + 1]? = some (.cells #[.int .i64 vol] 3 (0, 0)) := bk_keep hb (by (repeat (first | assumption | exact bk_new _ _ (by simp) | refine bk_drew ?_ | refine bk_alloc ?_ _ | refine bk_set ?_ (by simp <;> omega) _))); have B2 : w1.heap[w.heap.size + 1 + 1]? = some (.cells #[.int .i64 0, .int .i64 0] 24 (0, 0)) := bk_keep hb (by (repeat (first | assumption | exact bk_new _ _ (by simp) | refine bk_drew ?_ | refine bk_alloc ?_ _ | refine bk_set ?_ (by simp <;> omega) _))); have C1 := bk1 B1; have C2 := bk2 B2) | (go_at_call 97; refine (hI.out _).mono ?_; rintro e w' ⟨rfl, rfl⟩) | (go_at_call 71; refine (unless_any _ _ _).mono ?_; rintro e w' ⟨rfl, rfl⟩) | (go_at_call 70; refine (first2n _ _ _ ?_).mono ?_; (· simp); rintro e w' ⟨rfl, rfl⟩))
    refine bodyPost_ret (v := .tuple #[.agg #[.int .i64 0, .int .i64 0], .int .i64 2]) ?_ rfl ⟨rfl, ?_⟩
    · simp [results, Try.results45, go_sem, C2, C1, e2.out]
    · go_grown
  rw [if_pos rfl]
  rw [hD] at hI
  have z2 : (firstE [0, unl true 2] != 0) = false := rfl
  have hF := Lib.hid fun W => full_any s bung A ss.length c W
  rw [wrap_bung hR1] at hF
  have hS1 := Lib.hid fun (b1 b2 : Nat) (W : World) (hb : Below w.heap.size w W) (h1 : W.heap[b1]? = some (.cells #[.string s, .int .i64 bung, .slice A ss.length c] 115 (0, 0))) (h2 : W.heap[b2]? = some (.cells #[.int .i64 vol] 3 (0, 0))) =>
    search99 (2 * bung + 1).toNat (.pointer (some ⟨b1, 0, none⟩)) (.pointer (some ⟨b2, 0, none⟩)) (pLo bung ss vol) W (by omega) (pLo_up hR1)
      (fun W' i hb' hi => clo99 b1 b2 s bung vol A ss c i W' hR1 hcap (At.below hat'.out (via hb hb')) (by omega) (bk_keep hb' h1) (bk_keep hb' h2))
  have hS2 := Lib.hid fun (b1 b2 : Nat) (W : World) (hb : Below w.heap.size w W) (h1 : W.heap[b1]? = some (.cells #[.string s, .int .i64 bung, .slice A ss.length c] 115 (0, 0))) (h2 : W.heap[b2]? = some (.cells #[.int .i64 vol] 3 (0, 0))) =>
    search100 (2 * bung + 1).toNat (.pointer (some ⟨b1, 0, none⟩)) (.pointer (some ⟨b2, 0, none⟩)) (pHi bung ss vol) W (by omega) (pHi_up hR1)
      (fun W' i hb' hi => clo100 b1 b2 s bung vol A ss c i W' hR1 hcap (At.below hat'.out (via hb hb')) (by omega) (bk_keep hb' h1) (bk_keep hb' h2))
  have ef : (((2 * bung + 1).toNat : Nat) : Int) = 2 * bung + 1 := by omega
  rw [ef] at hS1 hS2
  unfold dLo dHi
  have f1 := (fst_is (pLo_up (vol := vol) hR1) (2 * bung + 1).toNat).1
  have f2 := (fst_is (pHi_up (vol := vol) hR1) (2 * bung + 1).toNat).1
  generalize fst (pLo bung ss vol) (2 * bung + 1).toNat = L at *
  generalize fst (pHi bung ss vol) (2 * bung + 1).toNat = H at *
  have f3 : (L : Int) ≤ 2 * bung + 1 := by omega
  have f4 : (H : Int) ≤ 2 * bung + 1 := by omega
  clear hD hR hR1 ef f1 f2
  obtain ⟨b1, hb1⟩ := hbb
  by_cases hLH : (H : Int) - 1 < (L : Int)
  · rw [if_pos hLH]
    go_enter Try.func45, Try.ntmps45
    go_wp2_with (first | (go_at_call 69; refine (hO.out _ ?_).mono ?_; (· go_grown); rintro e w1 ⟨rfl, hb⟩; have hbw := via (by go_grown : Below w.heap.size w _) hb; have B1 : w1.heap[w.heap.size + 1]? = some (.cells #[.int .i64 vol] 3 (0, 0)) := bk_keep hb (by (repeat (first | assumption | exact bk_new _ _ (by simp) | refine bk_drew ?_ | refine bk_alloc ?_ _ | refine bk_set ?_ (by simp <;> omega) _))); have B2 : w1.heap[w.heap.size + 1 + 1]? = some (.cells #[.int .i64 0, .int .i64 0] 24 (0, 0)) := bk_keep hb (by (repeat (first | assumption | exact bk_new _ _ (by simp) | refine bk_drew ?_ | refine bk_alloc ?_ _ | refine bk_set ?_ (by simp <;> omega) _))); have C1 := bk1 B1; have C2 := bk2 B2) | (go_at_call 97; refine (hI.out _).mono ?_; rintro e w' ⟨rfl, rfl⟩) | (go_at_call 71; refine (unless_any _ _ _).mono ?_; rintro e w' ⟨rfl, rfl⟩) | (go_at_call 70; refine (first2n _ _ _ ?_).mono ?_; (· simp); rintro e w' ⟨rfl, rfl⟩))
    refine wp_world ?_
    intro W hW_W
    have hb_W : Below w.heap.size w W := by rw [hW_W]; go_grown
    obtain ⟨bC, hC⟩ : ∃ n, w1.heap.size = n := ⟨_, rfl⟩
    have D0 : W.heap[bC]? = some (.cells #[.string s, .int .i64 bung, .slice A ss.length c] 115 (0, 0)) := by rw [hW_W]; exact bk_alloc (bk_new _ _ hC.symm) _
    have D1 : W.heap[w.heap.size + 1]? = some (.cells #[.int .i64 vol] 3 (0, 0)) := by rw [hW_W]; (repeat (first | assumption | exact bk_new _ _ (by simp) | refine bk_drew ?_ | refine bk_alloc ?_ _ | refine bk_set ?_ (by simp <;> omega) _))
    have D2 : W.heap[w.heap.size + 1 + 1]? = some (.cells #[.int .i64 0, .int .i64 0] 24 (0, 0)) := by rw [hW_W]; (repeat (first | assumption | exact bk_new _ _ (by simp) | refine bk_drew ?_ | refine bk_alloc ?_ _ | refine bk_set ?_ (by simp <;> omega) _))
    rw [hC]
    have hz1 := bk_size B2
    have hz2 : w.heap.size + 1 + 1 < bC := by omega
    have hr1 : IntKind.i64.wrap (2 * bung + 1) = 2 * bung + 1 := IntWalk.i64_in _ (by omega)
    have hr2 : IntKind.i64.wrap ((H : Int) - 1) = (H : Int) - 1 := IntWalk.i64_in _ (by omega)
    clear hW_W hC B1 B2 C1 C2 hbw hb hz1
    apply region_store w 12 13 8 (.cells #[.int .i64 0, .int .i64 0] 24 (0, 0)) (.cells #[.int .i64 L, .int .i64 (H - 1)] 24 (0, 0))
    case hm => kernel_rfl
    case hB => kernel_rfl
    case hB' => kernel_rfl
    case hS => kernel_rfl
    case hN => kernel_rfl
    case hw => exact hb_W
    case hal => intro o ho; simp at ho; subst ho; intro a x; kernel_rfl
    case hq =>
      intro u hu hgc hbx hbX
      replace D0 := bk_keep hu D0
      replace D1 := bk_keep hu D1
      have C0 := bk3 D0
      have C1 := bk1 D1
      simp only [dummyAt, struck, Nat.reduceAdd, Nat.reduceBEq, Nat.zero_add, Bool.or_false, Bool.or_true, Bool.false_or, Bool.true_or, Bool.false_eq_true, if_true, if_false, Bool.or_self]
      repeat (go_big_quiet_step (first
        | (go_at_call 93; exact Grew.call (hF.out _))
        | (go_at_call 98; with_reducible exact Grew.call (hS1.out _ _ _ (hbx.out _) (bk_keep (Grew.ok _) D0) (bk_keep (Grew.ok _) D1)))
        | (go_at_call 98; with_reducible exact Grew.call (hS2.out _ _ _ (hbx.out _) (bk_keep (Grew.ok _) D0) (bk_keep (Grew.ok _) D1)))))
      exact wpQuiet_nil rfl
    case hst =>
      intro o ho B x hx hB hz
      simp at ho
      subst ho
      have Cz := bk2 hz
      refine ⟨(x.setCell ⟨B, 0, none⟩ (.int .i64 (L))).setCell ⟨B, 1, none⟩ (.int .i64 (H - 1)), by simp [execOp, go_sem, Act.put, Cz], below_in (below_in hx hB _) hB _, bk_here (bk_here hz _ rfl) _ rfl⟩
    case h =>
      intro B x hB hx hw hz
      simp only [Act.put, List.setIfInBounds_toArray, List.set_cons_succ, List.set_cons_zero]
      have CG := bk2 hz
      replace D2 := bk_keep hx D2
      have C2 := bk2 D2
      have hBne := bk_size D0

      go_wp2
      refine bodyPost_ret (v := .tuple #[.agg #[.int .i64 0, .int .i64 0], .int .i64 12]) ?_ rfl ⟨rfl, ?_⟩
      · simp [results, Try.results45, go_sem, C2, CG]
      · go_grown
  · rw [if_neg hLH]
    go_enter Try.func45, Try.ntmps45
    go_wp2_with (first | (go_at_call 69; refine (hO.out _ ?_).mono ?_; (· go_grown); rintro e w1 ⟨rfl, hb⟩; have hbw := via (by go_grown : Below w.heap.size w _) hb; have B1 : w1.heap[w.heap.size + 1]? = some (.cells #[.int .i64 vol] 3 (0, 0)) := bk_keep hb (by (repeat (first | assumption | exact bk_new _ _ (by simp) | refine bk_drew ?_ | refine bk_alloc ?_ _ | refine bk_set ?_ (by simp <;> omega) _))); have B2 : w1.heap[w.heap.size + 1 + 1]? = some (.cells #[.int .i64 0, .int .i64 0] 24 (0, 0)) := bk_keep hb (by (repeat (first | assumption | exact bk_new _ _ (by simp) | refine bk_drew ?_ | refine bk_alloc ?_ _ | refine bk_set ?_ (by simp <;> omega) _))); have C1 := bk1 B1; have C2 := bk2 B2) | (go_at_call 97; refine (hI.out _).mono ?_; rintro e w' ⟨rfl, rfl⟩) | (go_at_call 71; refine (unless_any _ _ _).mono ?_; rintro e w' ⟨rfl, rfl⟩) | (go_at_call 70; refine (first2n _ _ _ ?_).mono ?_; (· simp); rintro e w' ⟨rfl, rfl⟩))
    refine wp_world ?_
    intro W hW_W
    have hb_W : Below w.heap.size w W := by rw [hW_W]; go_grown
    obtain ⟨bC, hC⟩ : ∃ n, w1.heap.size = n := ⟨_, rfl⟩
    have D0 : W.heap[bC]? = some (.cells #[.string s, .int .i64 bung, .slice A ss.length c] 115 (0, 0)) := by rw [hW_W]; exact bk_alloc (bk_new _ _ hC.symm) _
    have D1 : W.heap[w.heap.size + 1]? = some (.cells #[.int .i64 vol] 3 (0, 0)) := by rw [hW_W]; (repeat (first | assumption | exact bk_new _ _ (by simp) | refine bk_drew ?_ | refine bk_alloc ?_ _ | refine bk_set ?_ (by simp <;> omega) _))
    have D2 : W.heap[w.heap.size + 1 + 1]? = some (.cells #[.int .i64 0, .int .i64 0] 24 (0, 0)) := by rw [hW_W]; (repeat (first | assumption | exact bk_new _ _ (by simp) | refine bk_drew ?_ | refine bk_alloc ?_ _ | refine bk_set ?_ (by simp <;> omega) _))
    rw [hC]
    have hz1 := bk_size B2
    have hz2 : w.heap.size + 1 + 1 < bC := by omega
    have hr1 : IntKind.i64.wrap (2 * bung + 1) = 2 * bung + 1 := IntWalk.i64_in _ (by omega)
    have hr2 : IntKind.i64.wrap ((H : Int) - 1) = (H : Int) - 1 := IntWalk.i64_in _ (by omega)
    clear hW_W hC B1 B2 C1 C2 hbw hb hz1
    apply region_store w 12 13 8 (.cells #[.int .i64 0, .int .i64 0] 24 (0, 0)) (.cells #[.int .i64 L, .int .i64 (H - 1)] 24 (0, 0))
    case hm => kernel_rfl
    case hB => kernel_rfl
    case hB' => kernel_rfl
    case hS => kernel_rfl
    case hN => kernel_rfl
    case hw => exact hb_W
    case hal => intro o ho; simp at ho; subst ho; intro a x; kernel_rfl
    case hq =>
      intro u hu hgc hbx hbX
      replace D0 := bk_keep hu D0
      replace D1 := bk_keep hu D1
      have C0 := bk3 D0
      have C1 := bk1 D1
      simp only [dummyAt, struck, Nat.reduceAdd, Nat.reduceBEq, Nat.zero_add, Bool.or_false, Bool.or_true, Bool.false_or, Bool.true_or, Bool.false_eq_true, if_true, if_false, Bool.or_self]
      repeat (go_big_quiet_step (first
        | (go_at_call 93; exact Grew.call (hF.out _))
        | (go_at_call 98; with_reducible exact Grew.call (hS1.out _ _ _ (hbx.out _) (bk_keep (Grew.ok _) D0) (bk_keep (Grew.ok _) D1)))
        | (go_at_call 98; with_reducible exact Grew.call (hS2.out _ _ _ (hbx.out _) (bk_keep (Grew.ok _) D0) (bk_keep (Grew.ok _) D1)))))
      exact wpQuiet_nil rfl
    case hst =>
      intro o ho B x hx hB hz
      simp at ho
      subst ho
      have Cz := bk2 hz
      refine ⟨(x.setCell ⟨B, 0, none⟩ (.int .i64 (L))).setCell ⟨B, 1, none⟩ (.int .i64 (H - 1)), by simp [execOp, go_sem, Act.put, Cz], below_in (below_in hx hB _) hB _, bk_here (bk_here hz _ rfl) _ rfl⟩
    case h =>
      intro B x hB hx hw hz
      simp only [Act.put, List.setIfInBounds_toArray, List.set_cons_succ, List.set_cons_zero]
      have CG := bk2 hz
      replace D2 := bk_keep hx D2
      have C2 := bk2 D2
      have hBne := bk_size D0

      go_wp2
      refine bodyPost_ret (v := .tuple #[.agg #[.int .i64 L, .int .i64 (H - 1)], .int .i64 0]) ?_ rfl ⟨rfl, ?_⟩
      · simp [results, Try.results45, go_sem, C2, CG]
      · go_grown
end Go.Proofs
