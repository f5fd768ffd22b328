import Derived.Test.YtceiinlmblgdoaaGreatDoorS
set_option linter.unusedSimpArgs false
set_option linter.unusedVariables false
namespace Go.Proofs
open Go.RowKit

theorem checkCask_any (s : ByteArray) (bung : Int) (A : Option Addr) (ss : List St) (c : Nat) (w : World) (hs : s.size ≤ 9223372036854775807) (hat : At 3 St.cs w A ss) :
    Calls Tryz.prog 60 #[.agg #[.string s, .int .i64 bung, .slice A ss.length c]] w fun e w' =>
      e = .returned (.tuple #[.int .i64 (checkC s.data.toList bung ss).1, .int .i64 (checkC s.data.toList bung ss).2]) ∧ Below w.heap.size w w' := by
  unfold checkC
  by_cases h : caskHeadE s.data.toList bung ss.length = 0
  · rw [if_pos h]; exact checkCask_good s bung A ss c w hs h hat
  · rw [if_neg h]; exact checkCask_bad s bung A ss.length c w hs h

theorem open_any (s : ByteArray) (bung : Int) (A : Option Addr) (ss : List St) (c : Nat) (w : World) (hs : s.size ≤ 9223372036854775807) (hat : At 3 St.cs w A ss) :
    Calls Tryz.prog 38 #[.agg #[.string s, .int .i64 bung, .slice A ss.length c]] w fun e w' =>
      e = .returned (.tuple #[.agg #[.string s, .int .i64 bung, .slice A ss.length c], .int .i64 (checkC s.data.toList bung ss).2]) ∧ Below w.heap.size w w' := by
  have hC := Lib.hid fun W hb => checkCask_any s bung A ss c W hs (At.below hat hb)
  generalize checkC s.data.toList bung ss = r at hC ⊢
  obtain ⟨i1, e1⟩ := r
  dsimp only at hC ⊢
  clear hs hat
  go_enter Tryz.func38, Tryz.ntmps38
  go_wp2_with (go_at_call 60; refine (hC.out _ ?_).mono ?_; (· go_grown); rintro e w1 ⟨rfl, hb⟩; have hcc := gcell hb; have hff := gfrozen hb; have hbw := via (by go_grown : Below w.heap.size w _) hb; have hz0 : w.heap.size < w1.heap.size := (by have := hb.size; simp at this; omega); have hz1 : w.heap.size + 1 < w1.heap.size := (by have := hb.size; simp at this; omega))
  refine bodyPost_ret (v := .tuple #[.agg #[.string s, .int .i64 bung, .slice A ss.length c], .int .i64 e1]) ?_ rfl ⟨rfl, ?_⟩
  · simp [results, Tryz.results38, go_sem, hcc, hff, hz0, hz1]
  · go_grown

theorem full_any (s : ByteArray) (bung : Int) (A : Option Addr) (n c : Nat) (w : World) :
    Calls Tryz.prog 61 #[.agg #[.string s, .int .i64 bung, .slice A n c]] w fun e w' => e = .returned (.int .i64 (wrap64 (2 * bung))) ∧ Below w.heap.size w w' := by
  go_enter Tryz.func61, Tryz.ntmps61
  go_wp2
  go_ret
  exact ⟨by simp [go_sem], new_below _ _⟩
theorem isDip_any (s : ByteArray) (bung d : Int) (A : Option Addr) (n c : Nat) (w : World) :
    Calls Tryz.prog 39 #[.agg #[.string s, .int .i64 bung, .slice A n c], .int .i64 d] w fun e w' => e = .returned (.bool (within d 0 (wrap64 (2 * bung)))) ∧ Below w.heap.size w w' := by
  go_enter Tryz.func39, Tryz.ntmps39
  go_wp2_with (first
    | (go_at_call 61; refine (full_any _ _ _ _ _ _).mono ?_; rintro e w1 ⟨rfl, hb⟩; have hbw := via (by go_grown : Below w.heap.size w _) hb)
    | (go_at_call 29; refine (within_any _ _ _ _).mono ?_; rintro e w' ⟨rfl, rfl⟩))
  go_ret
  exact ⟨rfl, hbw⟩

/-- What is known of a right cask. -/
structure RightC (bung : Int) (ss : List St) : Prop where
  b : 10 ≤ bung ∧ bung ≤ 800
  n : 1 < ss.length ∧ ss.length ≤ 12
  s : ∀ x ∈ ss, 0 ≤ x.at_ ∧ x.at_ ≤ 3000 ∧ 10 ≤ x.inn ∧ x.inn ≤ bung ∧ 10 ≤ x.out ∧ x.out ≤ bung ∧ x.inn ≤ x.out
  up : ∀ (i : Nat) (x y : St), ss[i]? = some x → ss[i + 1]? = some y → x.at_ < y.at_
def allOk (bung : Int) : Option Int → List St → Prop
  | _, [] => True
  | p, s :: l => stE bung p s = 0 ∧ allOk bung (some s.at_) l
theorem allOk_of {bung : Int} : ∀ (l : List St) (p : Option Int) (k : Nat), (stationsE bung l p k).2 = 0 → allOk bung p l
  | [], _, _, _ => trivial
  | s :: l, p, k, h => by
    unfold stationsE at h
    by_cases hz : stE bung p s = 0
    · rw [if_pos hz] at h
      exact ⟨hz, allOk_of l _ _ h⟩
    · rw [if_neg hz] at h
      exact (hz h).elim
theorem stE_zero {bung : Int} {p : Option Int} {s : St} (h : stE bung p s = 0) : (0 ≤ s.at_ ∧ s.at_ ≤ 3000 ∧ 10 ≤ s.inn ∧ s.inn ≤ bung ∧ 10 ≤ s.out ∧ s.out ≤ bung ∧ s.inn ≤ s.out) ∧ ∀ q, p = some q → q < s.at_ := by
  unfold stE firstE unl within at h
  simp only [firstE] at h
  by_cases h1 : (0 ≤ s.at_ ∧ s.at_ ≤ 3000) <;> by_cases h2 : (10 ≤ s.inn ∧ s.inn ≤ bung) <;> by_cases h3 : (10 ≤ s.out ∧ s.out ≤ bung) <;> by_cases h4 : s.inn ≤ s.out <;> simp [h1, h2, h3, h4] at h
  · refine ⟨⟨h1.1, h1.2, h2.1, h2.2, h3.1, h3.2, h4⟩, ?_⟩
    rintro q rfl
    simp at h; omega
theorem allOk_mem {bung : Int} : ∀ (l : List St) (p : Option Int), allOk bung p l → ∀ x ∈ l, 0 ≤ x.at_ ∧ x.at_ ≤ 3000 ∧ 10 ≤ x.inn ∧ x.inn ≤ bung ∧ 10 ≤ x.out ∧ x.out ≤ bung ∧ x.inn ≤ x.out
  | s :: l, p, h, x, hx => by
    rcases List.mem_cons.1 hx with rfl | hx
    · exact (stE_zero h.1).1
    · exact allOk_mem l _ h.2 x hx
theorem allOk_up {bung : Int} : ∀ (l : List St) (p : Option Int), allOk bung p l → ∀ (i : Nat) (x y : St), l[i]? = some x → l[i + 1]? = some y → x.at_ < y.at_
  | s :: t :: l, p, h, 0, x, y, hx, hy => by
    simp only [List.getElem?_cons_zero, Option.some.injEq] at hx
    simp only [Nat.zero_add, List.getElem?_cons_succ, List.getElem?_cons_zero, Option.some.injEq] at hy
    subst hx hy
    exact (stE_zero h.2.1).2 _ rfl
  | s :: l, p, h, i + 1, x, y, hx, hy => by
    simp only [List.getElem?_cons_succ] at hx hy
    exact allOk_up l _ h.2 i x y hx hy
  | [s], p, h, 0, x, y, hx, hy => by simp at hy
theorem rightC_of {name : List UInt8} {bung : Int} {ss : List St} (h : (checkC name bung ss).2 = 0) : RightC bung ss := by
  unfold checkC at h
  by_cases hz : caskHeadE name bung ss.length = 0
  · rw [if_pos hz] at h
    obtain ⟨_, h2, h3, h4⟩ := caskHeadE_zero hz
    have hall := allOk_of ss none 0 h
    exact ⟨within_true h2, ⟨h3, h4⟩, allOk_mem ss none hall, allOk_up ss none hall⟩
  · rw [if_neg hz] at h
    exact (hz h).elim

/-- The part of the volume between two stations. -/
def part (bung dip : Int) (p s : St) : Int × Int := ((s.at_ - p.at_) * (areaOf (min p.inn s.inn) (dip - bung)).1, (s.at_ - p.at_) * (areaOf (max p.out s.out) (dip - bung)).2)
def sumTo (bung dip : Int) (ss : List St) : Nat → Int × Int
  | 0 => (0, 0)
  | k + 1 => match ss[k]?, ss[k + 1]? with
    | some p, some s => ((sumTo bung dip ss k).1 + (part bung dip p s).1, (sumTo bung dip ss k).2 + (part bung dip p s).2)
    | _, _ => sumTo bung dip ss k
def toV (bung dip : Int) (ss : List St) : Int × Int := ((sumTo bung dip ss (ss.length - 1)).1 / 100000, -(-(sumTo bung dip ss (ss.length - 1)).2 / 100000))

theorem area_bd (c lv : Int) (hc : 0 ≤ c) (hc2 : c ≤ 800) (_h : -1000 ≤ lv) : 0 ≤ (areaOf c lv).1 ∧ (areaOf c lv).1 ≤ 3201600 ∧ 0 ≤ (areaOf c lv).2 ∧ (areaOf c lv).2 ≤ 3201600 := by
  unfold areaOf
  have := sumA_bd c hc (by omega) (min lv c + c).toNat (by omega)
  omega
theorem prod_bd (a b : Int) (h1 : 0 ≤ a) (h2 : a ≤ 3000) (h3 : 0 ≤ b) (h4 : b ≤ 3201600) : 0 ≤ a * b ∧ a * b ≤ 9604800000 := by
  refine ⟨Int.mul_nonneg h1 h3, ?_⟩
  have := Int.mul_le_mul h2 h4 h3 (by omega : (0 : Int) ≤ 3000)
  omega
theorem sumTo_bd (bung dip : Int) (ss : List St) (h : RightC bung ss) (hd : 0 ≤ dip) (_hd2 : dip ≤ 2 * bung) : ∀ k, k ≤ 11 → 0 ≤ (sumTo bung dip ss k).1 ∧ (sumTo bung dip ss k).1 ≤ 9604800000 * k ∧ 0 ≤ (sumTo bung dip ss k).2 ∧ (sumTo bung dip ss k).2 ≤ 9604800000 * k
  | 0, _ => by simp [sumTo]
  | k + 1, hk => by
    have ih := sumTo_bd bung dip ss h hd _hd2 k (by omega)
    unfold sumTo
    cases hp : ss[k]? with
    | none => simp only; omega
    | some p => cases hs : ss[k + 1]? with
      | none => simp only; omega
      | some s =>
        have hps := h.s p (List.mem_of_getElem? hp)
        have hss := h.s s (List.mem_of_getElem? hs)
        have hup := h.up k p s hp hs
        have hb := h.b
        have a1 := area_bd (min p.inn s.inn) (dip - bung) (by omega) (by omega) (by omega)
        have a2 := area_bd (max p.out s.out) (dip - bung) (by omega) (by omega) (by omega)
        have b1 := prod_bd (s.at_ - p.at_) _ (by omega) (by omega) a1.1 a1.2.1
        have b2 := prod_bd (s.at_ - p.at_) _ (by omega) (by omega) a2.2.2.1 a2.2.2.2
        unfold part
        dsimp only
        omega
end Go.Proofs
