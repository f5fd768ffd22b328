import Derived.Test.YtjfdjjekonkgjaaZe
import Derived.Test.YtjfdjjekonkgjaaX
set_option linter.unusedSimpArgs false
set_option linter.unusedVariables false
namespace Go.Proofs
open Go.RowKit

theorem wLo_wider {c d y : Int} (hc : 0 ≤ c) (hd : c ≤ d) (hd2 : d ≤ 1000) (h1 : -c ≤ y) (h2 : y ≤ c) : wLo c y ≤ wLo d y ∧ wHi c y ≤ wHi d y := by
  have q1 := wq_bd c y hc (by omega) h1 h2
  have q2 := wq_bd d y (by omega) hd2 (by omega) (by omega)
  have hs := sq_mono hc hd
  have hq : wq c y ≤ wq d y := by unfold wq; omega
  refine ⟨rt_mono q1.1 hq (by omega), ?_⟩
  unfold wHi
  rw [← upR_is _ q1.1 (by omega), ← upR_is _ q2.1 (by omega)]
  exact upR_mono q1.1 hq (by omega)
theorem strip_wider {c d : Int} {i e : Nat} (hc : 0 ≤ c) (he : d = c + e) (hd2 : d ≤ 1000) (h : -c + (i : Int) < c) : (strip c i).1 ≤ (strip d (i + e)).1 ∧ (strip c i).2 ≤ (strip d (i + e)).2 := by
  have a := wLo_wider (c := c) (d := d) (y := -c + i) hc (by omega) hd2 (by omega) (by omega)
  have b := wLo_wider (c := c) (d := d) (y := -c + i + 1) hc (by omega) hd2 (by omega) (by omega)
  have e1 : -d + ((i + e : Nat) : Int) = -c + i := by omega
  unfold strip
  rw [e1]
  dsimp only
  omega
theorem sumA_wider {c d : Int} {e : Nat} (hc : 0 ≤ c) (he : d = c + e) (hd2 : d ≤ 1000) : ∀ n : Nat, -c + (n : Int) ≤ c → (sumA (strips c n)).1 ≤ (sumA (strips d (n + e))).1 ∧ (sumA (strips c n)).2 ≤ (sumA (strips d (n + e))).2
  | 0, _ => by
    have := sumA_bd d (by omega) hd2 e (by omega)
    rw [Nat.zero_add]
    simp only [strips, sumA, List.range_zero, List.map_nil, List.foldl_nil] at this ⊢
    omega
  | n + 1, h => by
    have ih := sumA_wider hc he hd2 n (by omega)
    have := strip_wider (i := n) hc he hd2 (by omega)
    rw [strips_succ, sumA_snoc, show n + 1 + e = (n + e) + 1 by omega, strips_succ, sumA_snoc]
    dsimp only
    omega
theorem sumA_deeper {c : Int} (hc : 0 ≤ c) (hc2 : c ≤ 1000) (m : Nat) : ∀ k : Nat, -c + ((m + k : Nat) : Int) ≤ c → (sumA (strips c m)).1 ≤ (sumA (strips c (m + k))).1 ∧ (sumA (strips c m)).2 ≤ (sumA (strips c (m + k))).2
  | 0, _ => by simp
  | k + 1, h => by
    have ih := sumA_deeper hc hc2 m k (by omega)
    have := strip_more c (m + k) hc hc2 (by omega)
    rw [← Nat.add_assoc, strips_succ, sumA_snoc]
    dsimp only
    omega
theorem area_deeper {c lv lw : Int} (hc : 0 ≤ c) (hc2 : c ≤ 1000) (h : lv ≤ lw) : (areaOf c lv).1 ≤ (areaOf c lw).1 ∧ (areaOf c lv).2 ≤ (areaOf c lw).2 := by
  unfold areaOf
  obtain ⟨k, hk⟩ : ∃ k : Nat, (min lw c + c).toNat = (min lv c + c).toNat + k := ⟨(min lw c + c).toNat - (min lv c + c).toNat, by omega⟩
  rw [hk]
  exact sumA_deeper hc hc2 _ k (by omega)
theorem area_wider {c d lv : Int} (hc : 0 ≤ c) (hd : c ≤ d) (hd2 : d ≤ 1000) : (areaOf c lv).1 ≤ (areaOf d lv).1 ∧ (areaOf c lv).2 ≤ (areaOf d lv).2 := by
  unfold areaOf
  obtain ⟨e, he⟩ : ∃ e : Nat, d = c + e := ⟨(d - c).toNat, by omega⟩
  by_cases hlv : -c ≤ lv
  · have a := sumA_wider hc he hd2 (min lv c + c).toNat (by omega)
    obtain ⟨k, hk⟩ : ∃ k : Nat, (min lv d + d).toNat = ((min lv c + c).toNat + e) + k := ⟨(min lv d + d).toNat - ((min lv c + c).toNat + e), by omega⟩
    have b := sumA_deeper (c := d) (by omega) hd2 ((min lv c + c).toNat + e) k (by omega)
    rw [hk]
    omega
  · rw [show (min lv c + c).toNat = 0 by omega]
    have b := sumA_bd d (by omega) hd2 (min lv d + d).toNat (by omega)
    simp only [strips, sumA, List.range_zero, List.map_nil, List.foldl_nil] at b ⊢
    omega
theorem area_ends {c lv : Int} (hc : 0 ≤ c) (hc2 : c ≤ 1000) : 0 ≤ (areaOf c lv).1 ∧ (areaOf c lv).1 ≤ (areaOf c lv).2 := by
  unfold areaOf
  have a := sum_more c hc hc2 (min lv c + c).toNat
  have b := sumA_bd c hc hc2 (min lv c + c).toNat
  by_cases h : 0 ≤ min lv c + c
  · have := a (by omega); have := b (by omega); omega
  · rw [show (min lv c + c).toNat = 0 by omega]
    simp [strips, sumA]

/-- The stations, so that two casks may be compared: as far along, and the second one's curves no narrower. -/
def Wider (p q : St) : Prop := p.at_ = q.at_ ∧ q.inn ≤ p.inn ∧ p.out ≤ q.out
theorem part_wider {bung dip : Int} {p s p' s' : St} (hp : Wider p p') (hs : Wider s s') (hb : bung ≤ 800) (hat : p.at_ ≤ s.at_) (h0 : 0 ≤ p'.inn ∧ 0 ≤ s'.inn ∧ p.inn ≤ bung ∧ s.inn ≤ bung) (h1 : 0 ≤ p.out ∧ 0 ≤ s.out ∧ p'.out ≤ bung ∧ s'.out ≤ bung) :
    (part bung dip p' s').1 ≤ (part bung dip p s).1 ∧ (part bung dip p s).2 ≤ (part bung dip p' s').2 := by
  obtain ⟨a1, a2, a3⟩ := hp
  obtain ⟨b1, b2, b3⟩ := hs
  unfold part
  rw [a1, b1]
  have x := area_wider (c := min p'.inn s'.inn) (d := min p.inn s.inn) (lv := dip - bung) (by omega) (by omega) (by omega)
  have y := area_wider (c := max p.out s.out) (d := max p'.out s'.out) (lv := dip - bung) (by omega) (by omega) (by omega)
  dsimp only
  exact ⟨Int.mul_le_mul_of_nonneg_left x.1 (by omega), Int.mul_le_mul_of_nonneg_left y.2 (by omega)⟩
theorem part_deeper {bung dip dip' : Int} {p s : St} (hd : dip ≤ dip') (hb : bung ≤ 800) (hat : p.at_ ≤ s.at_) (h0 : 0 ≤ p.inn ∧ 0 ≤ s.inn ∧ p.inn ≤ bung ∧ s.inn ≤ bung) (h1 : 0 ≤ p.out ∧ 0 ≤ s.out ∧ p.out ≤ bung ∧ s.out ≤ bung) :
    (part bung dip p s).1 ≤ (part bung dip' p s).1 ∧ (part bung dip p s).2 ≤ (part bung dip' p s).2 := by
  unfold part
  have x := area_deeper (c := min p.inn s.inn) (lv := dip - bung) (lw := dip' - bung) (by omega) (by omega) (by omega)
  have y := area_deeper (c := max p.out s.out) (lv := dip - bung) (lw := dip' - bung) (by omega) (by omega) (by omega)
  dsimp only
  exact ⟨Int.mul_le_mul_of_nonneg_left x.1 (by omega), Int.mul_le_mul_of_nonneg_left y.2 (by omega)⟩
theorem part_ends {bung dip : Int} {p s : St} (hb : bung ≤ 800) (hat : p.at_ ≤ s.at_) (h0 : 0 ≤ p.inn ∧ 0 ≤ s.inn ∧ p.inn ≤ p.out ∧ s.inn ≤ s.out) (h1 : p.out ≤ bung ∧ s.out ≤ bung) :
    0 ≤ (part bung dip p s).1 ∧ (part bung dip p s).1 ≤ (part bung dip p s).2 := by
  unfold part
  have x := area_wider (c := min p.inn s.inn) (d := max p.out s.out) (lv := dip - bung) (by omega) (by omega) (by omega)
  have y := area_ends (c := max p.out s.out) (lv := dip - bung) (by omega) (by omega)
  have z := area_ends (c := min p.inn s.inn) (lv := dip - bung) (by omega) (by omega)
  dsimp only
  exact ⟨Int.mul_nonneg (by omega) z.1, Int.mul_le_mul_of_nonneg_left (by omega) (by omega)⟩

theorem sumTo_deeper {bung dip dip' : Int} {ss : List St} (hR : RightC bung ss) (hd : dip ≤ dip') : ∀ k, (sumTo bung dip ss k).1 ≤ (sumTo bung dip' ss k).1 ∧ (sumTo bung dip ss k).2 ≤ (sumTo bung dip' ss k).2
  | 0 => by simp [sumTo]
  | k + 1 => by
    have ih := sumTo_deeper hR hd k
    unfold sumTo
    cases hp : ss[k]? with
    | none => simpa using ih
    | some p => cases hs : ss[k + 1]? with
      | none => simpa using ih
      | some s =>
        have a := hR.s p (List.mem_of_getElem? hp)
        have b := hR.s s (List.mem_of_getElem? hs)
        have c := hR.up k p s hp hs
        have h := part_deeper (p := p) (s := s) hd (bung := bung) (by have := hR.b; omega) (by omega) (by omega) (by omega)
        dsimp only
        omega
theorem sumTo_ends {bung dip : Int} {ss : List St} (hR : RightC bung ss) : ∀ k, 0 ≤ (sumTo bung dip ss k).1 ∧ (sumTo bung dip ss k).1 ≤ (sumTo bung dip ss k).2
  | 0 => by simp [sumTo]
  | k + 1 => by
    have ih := sumTo_ends (dip := dip) hR k
    unfold sumTo
    cases hp : ss[k]? with
    | none => simpa using ih
    | some p => cases hs : ss[k + 1]? with
      | none => simpa using ih
      | some s =>
        have a := hR.s p (List.mem_of_getElem? hp)
        have b := hR.s s (List.mem_of_getElem? hs)
        have c := hR.up k p s hp hs
        have h := part_ends (dip := dip) (p := p) (s := s) (bung := bung) (by have := hR.b; omega) (by omega) (by omega) (by omega)
        dsimp only
        omega
theorem sumTo_wider {bung dip : Int} {ss st : List St} (hR : RightC bung ss) (hR' : RightC bung st) (hw : ∀ k : Nat, ∀ p q : St, ss[k]? = some p → st[k]? = some q → Wider p q) (hl : ss.length = st.length) :
    ∀ k, (sumTo bung dip st k).1 ≤ (sumTo bung dip ss k).1 ∧ (sumTo bung dip ss k).2 ≤ (sumTo bung dip st k).2
  | 0 => by simp [sumTo]
  | k + 1 => by
    have ih := sumTo_wider (dip := dip) hR hR' hw hl k
    unfold sumTo
    by_cases hk : k + 1 < ss.length
    · obtain ⟨p, hp⟩ : ∃ p, ss[k]? = some p := ⟨_, List.getElem?_eq_getElem (by omega)⟩
      obtain ⟨s, hs⟩ : ∃ p, ss[k + 1]? = some p := ⟨_, List.getElem?_eq_getElem (by omega)⟩
      obtain ⟨p', hp'⟩ : ∃ p, st[k]? = some p := ⟨_, List.getElem?_eq_getElem (by omega)⟩
      obtain ⟨s', hs'⟩ : ∃ p, st[k + 1]? = some p := ⟨_, List.getElem?_eq_getElem (by omega)⟩
      have a := hR.s p (List.mem_of_getElem? hp)
      have b := hR.s s (List.mem_of_getElem? hs)
      have a' := hR'.s p' (List.mem_of_getElem? hp')
      have b' := hR'.s s' (List.mem_of_getElem? hs')
      have c := hR.up k p s hp hs
      have h := part_wider (dip := dip) (hw k p p' hp hp') (hw (k + 1) s s' hs hs') (bung := bung) (by have := hR.b; omega) (by omega) (by omega) (by omega)
      rw [hp, hs, hp', hs']
      dsimp only
      omega
    · rw [List.getElem?_eq_none (by omega : ss.length ≤ k + 1), List.getElem?_eq_none (by omega : st.length ≤ k + 1)]
      cases ss[k]? <;> cases st[k]? <;> simpa using ih
theorem div_up {a b : Int} (h : a ≤ b) : a / 100000 ≤ b / 100000 := by omega
theorem toV_deeper {bung dip dip' : Int} {ss : List St} (hR : RightC bung ss) (hd : dip ≤ dip') : (toV bung dip ss).1 ≤ (toV bung dip' ss).1 ∧ (toV bung dip ss).2 ≤ (toV bung dip' ss).2 := by
  unfold toV
  have := sumTo_deeper hR hd (ss.length - 1)
  dsimp only
  omega
theorem toV_ends {bung dip : Int} {ss : List St} (hR : RightC bung ss) : 0 ≤ (toV bung dip ss).1 ∧ (toV bung dip ss).1 ≤ (toV bung dip ss).2 := by
  unfold toV
  have := sumTo_ends (dip := dip) hR (ss.length - 1)
  dsimp only
  omega
theorem toV_wider {bung dip : Int} {ss st : List St} (hR : RightC bung ss) (hR' : RightC bung st) (hw : ∀ k : Nat, ∀ p q : St, ss[k]? = some p → st[k]? = some q → Wider p q) (hl : ss.length = st.length) :
    (toV bung dip st).1 ≤ (toV bung dip ss).1 ∧ (toV bung dip ss).2 ≤ (toV bung dip st).2 := by
  unfold toV
  have := sumTo_wider (dip := dip) hR hR' hw hl (ss.length - 1)
  rw [← hl]
  dsimp only
  omega
theorem area_none {c lv : Int} (h : lv ≤ -c) : areaOf c lv = (0, 0) := by
  unfold areaOf
  rw [show (min lv c + c).toNat = 0 by omega]
  rfl
theorem sumTo_zero {bung : Int} {ss : List St} (hR : RightC bung ss) : ∀ k, sumTo bung 0 ss k = (0, 0)
  | 0 => rfl
  | k + 1 => by
    have ih := sumTo_zero hR k
    unfold sumTo
    cases hp : ss[k]? with
    | none => simpa using ih
    | some p => cases hs : ss[k + 1]? with
      | none => simpa using ih
      | some s =>
        have a := hR.s p (List.mem_of_getElem? hp)
        have b := hR.s s (List.mem_of_getElem? hs)
        unfold part
        have e1 := area_none (by omega : 0 - bung ≤ -(min p.inn s.inn))
        have e2 := area_none (by omega : 0 - bung ≤ -(max p.out s.out))
        dsimp only
        rw [e1, e2, ih]
        simp
theorem toV_zero {bung : Int} {ss : List St} (hR : RightC bung ss) : toV bung 0 ss = (0, 0) := by
  unfold toV
  rw [sumTo_zero hR]
  rfl

/-- Where a test that stays true first is true. -/
def FirstTrue (p : Nat → Bool) (n r : Nat) : Prop := r ≤ n ∧ (∀ j, j < r → p j = false) ∧ ∀ j, r ≤ j → j < n → p j = true
theorem firstTrue_one {p : Nat → Bool} {n r r' : Nat} (h : FirstTrue p n r) (h' : FirstTrue p n r') : r = r' := by
  obtain ⟨a, b, c⟩ := h
  obtain ⟨a', b', c'⟩ := h'
  rcases Nat.lt_trichotomy r r' with hl | hl | hl
  · have x := b' r hl; have y := c r (Nat.le_refl _) (by omega); rw [x] at y; cases y
  · exact hl
  · have x := b r' hl; have y := c' r' (Nat.le_refl _) (by omega); rw [x] at y; cases y
def fst (p : Nat → Bool) : Nat → Nat
  | 0 => 0
  | n + 1 => if fst p n < n then fst p n else if p n then n else n + 1
theorem fst_is {p : Nat → Bool} (hp : ∀ i j, i ≤ j → p i = true → p j = true) : ∀ n, FirstTrue p n (fst p n)
  | 0 => ⟨Nat.le_refl _, fun j hj => by simp [fst] at hj, fun j _ hj => by omega⟩
  | n + 1 => by
    obtain ⟨a, b, c⟩ := fst_is hp n
    unfold fst
    by_cases h : fst p n < n
    · rw [if_pos h]
      refine ⟨by omega, b, fun j h1 h2 => ?_⟩
      exact hp _ _ h1 (c _ (Nat.le_refl _) h)
    · rw [if_neg h]
      have e : fst p n = n := by omega
      rw [e] at b
      by_cases hn : p n = true
      · rw [if_pos hn]
        exact ⟨by omega, b, fun j h1 h2 => hp _ _ h1 hn⟩
      · rw [if_neg hn]
        refine ⟨Nat.le_refl _, fun j hj => ?_, fun j h1 h2 => by omega⟩
        by_cases hj2 : j < n
        · exact b j hj2
        · have : j = n := by omega
          subst this
          simpa using hn
end Go.Proofs
