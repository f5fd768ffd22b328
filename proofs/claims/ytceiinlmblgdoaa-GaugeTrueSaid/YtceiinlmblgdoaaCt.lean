import Derived.Test.YtceiinlmblgdoaaPl
import Derived.Test.YtceiinlmblgdoaaHe
set_option linter.unusedSimpArgs false
set_option linter.unusedVariables false
namespace Go.Proofs
open Go.RowKit

/-! Any permitted loss: the plain law. -/
def caskS : ByteArray := ⟨#[99, 97, 115, 107]⟩
def noneS : ByteArray := ⟨#[]⟩

def ckDays : List Int := (List.range 60).map fun (k : Nat) => 100 * ((k : Int) + 1)
def ckMv (M d : Int) : Mv := ⟨d, caskS, noneS, M⟩
def ckMoves (M : Int) : List Mv := ckDays.map (ckMv M)
def rdOf (V L M : Int) (x : Int × Int × Int) : Rd := ⟨caskS, 1000 * x.1, heldV V L M x.1 - x.2.1, heldV V L M x.1 + x.2.2⟩
def inRow (V L M : Int) (x : Int × Int × Int) : Prop := (0 ≤ x.1 ∧ x.1 ≤ 8) ∧ (0 ≤ x.2.1 ∧ x.2.1 ≤ 100) ∧ (0 ≤ x.2.2 ∧ x.2.2 ≤ 100) ∧ 100 ≤ heldV V L M x.1
def okDays : Option Int → List Int → Bool
  | _, [] => true
  | b, d :: l => okDay b d && okDays (some d) l
theorem datedE_ok {α : Type} {err : α → Int} {day : α → Int} : ∀ (l : List α) (b : Option Int) (k : Nat), (∀ x ∈ l, err x = 0) → okDays b (l.map day) = true → (datedE err day l b k).2 = 0
  | [], _, _, _, _ => rfl
  | x :: l, b, k, h, hd => by
    simp only [List.map_cons, okDays, Bool.and_eq_true] at hd
    unfold datedE
    rw [h x (List.mem_cons_self ..), hd.1]
    rw [if_pos (by rfl)]
    exact datedE_ok l _ _ (fun y hy => h y (List.mem_cons_of_mem _ hy)) hd.2
/-- How many days lie behind one, up to another one. -/
def cntD (l : List Int) (lo hi : Int) : Nat := (l.filter fun d => decide (lo < d) && decide (d ≤ hi)).length
theorem ck_eq : eqS caskS caskS = true ∧ eqS noneS caskS = false ∧ eqS caskS noneS = false := by decide +kernel
theorem net_days (M lo hi : Int) : ∀ (l : List Int) (s : Int), (l.map (ckMv M)).foldl (netStep caskS lo hi) s = s - M * (cntD l lo hi : Nat)
  | [], s => by simp [cntD]
  | d :: l, s => by
    rw [List.map_cons, List.foldl_cons, net_days M lo hi l]
    unfold netStep ckMv cntD
    dsimp only
    rw [ck_eq.1, ck_eq.2.1]
    by_cases h1 : d ≤ lo
    · rw [if_pos h1, List.filter_cons_of_neg (by simp; omega)]
    · rw [if_neg h1]
      by_cases h2 : hi < d
      · rw [if_pos h2, List.filter_cons_of_neg (by simp; omega)]
      · rw [if_neg h2, List.filter_cons_of_pos (by simp; omega), List.length_cons]
        simp only [Bool.false_eq_true, if_false, if_true]
        rw [show ((((l.filter fun d => decide (lo < d) && decide (d ≤ hi)).length + 1 : Nat)) : Int) = ((l.filter fun d => decide (lo < d) && decide (d ≤ hi)).length : Int) + 1 by omega, Int.mul_add]
        omega
theorem cnt_all : ∀ a ∈ List.range 9, ∀ b ∈ List.range 9, a ≤ b → cntD ckDays (1000 * (a : Int)) (1000 * (b : Int)) = 10 * (min 6 b - min 6 a) := by decide +kernel
theorem net_ck (M a b : Int) (ha : 0 ≤ a) (hab : a ≤ b) (hb : b ≤ 8) : netL (ckMoves M) caskS (1000 * a) (1000 * b) = - (M * (10 * (min 6 b - min 6 a))) := by
  unfold netL ckMoves
  rw [net_days]
  have h := cnt_all a.toNat (List.mem_range.2 (by omega)) b.toNat (List.mem_range.2 (by omega)) (by omega)
  rw [show ((a.toNat : Nat) : Int) = a by omega, show ((b.toNat : Nat) : Int) = b by omega] at h
  rw [h]
  have : (((10 * (min 6 b.toNat - min 6 a.toNat) : Nat)) : Int) = 10 * (min 6 b - min 6 a) := by omega
  rw [this]
  omega
theorem held_step (V L M a b : Int) (ha : 0 ≤ a) (hab : a ≤ b) : heldV V L M b = heldV V L M a - L * (b - a) - M * (10 * (min 6 b - min 6 a)) := by
  unfold heldV
  have e1 : L * (b - a) = L * b - L * a := Int.mul_sub ..
  have e2 : M * (10 * (min 6 b - min 6 a)) = 10 * M * min 6 b - 10 * M * min 6 a := by
    rw [← Int.mul_assoc, Int.mul_comm M 10, Int.mul_sub]
  have e3 : max 0 b = b := by omega
  have e4 : max 0 a = a := by omega
  rw [e1, e2, e3, e4]
  omega
/-- The truth lies in what each gauging allows. -/
theorem truth_in {V L M l0 l1 : Int} (x : Int × Int × Int) (t : Int) (h : inRow V L M x) (hl0 : l0 ≤ L) (hl1 : L ≤ l1) (ht : 0 ≤ t) (ht8 : t ≤ 8) :
    allowsLo l0 l1 (ckMoves M) (rdOf V L M x) (1000 * t) ≤ 1000 * heldV V L M t ∧ 1000 * heldV V L M t ≤ allowsHi l0 l1 (ckMoves M) (rdOf V L M x) (1000 * t) := by
  obtain ⟨d, a, b⟩ := x
  obtain ⟨⟨hd0, hd8⟩, ⟨ha0, ha1⟩, ⟨hb0, hb1⟩, hn⟩ := h
  dsimp only at *
  unfold allowsLo allowsHi rdOf
  dsimp only
  by_cases hd : d ≤ t
  · rw [if_pos (by omega), if_pos (by omega), net_ck M d t hd0 hd ht8, held_step V L M d t hd0 hd]
    have u1 := mul_up (s := t - d) hl1 (by omega)
    have u0 := mul_up (s := t - d) hl0 (by omega)
    have e1 : l1 * (1000 * t - 1000 * d) = 1000 * (l1 * (t - d)) := by rw [← Int.mul_sub, ← Int.mul_assoc, Int.mul_comm l1 1000, Int.mul_assoc]
    have e0 : l0 * (1000 * t - 1000 * d) = 1000 * (l0 * (t - d)) := by rw [← Int.mul_sub, ← Int.mul_assoc, Int.mul_comm l0 1000, Int.mul_assoc]
    rw [e1, e0]
    omega
  · rw [if_neg (by omega), if_neg (by omega), net_ck M t d ht (by omega) hd8]
    have hs := held_step V L M t d ht (by omega)
    have u1 := mul_up (s := d - t) hl1 (by omega)
    have u0 := mul_up (s := d - t) hl0 (by omega)
    have e1 : l1 * (1000 * d - 1000 * t) = 1000 * (l1 * (d - t)) := by rw [← Int.mul_sub, ← Int.mul_assoc, Int.mul_comm l1 1000, Int.mul_assoc]
    have e0 : l0 * (1000 * d - 1000 * t) = 1000 * (l0 * (d - t)) := by rw [← Int.mul_sub, ← Int.mul_assoc, Int.mul_comm l0 1000, Int.mul_assoc]
    rw [e1, e0]
    omega
theorem held_top {V L M t : Int} (hV : V ≤ 50000) (hL : 0 ≤ L) (hM : 0 ≤ M) (ht : 0 ≤ t) : heldV V L M t ≤ 50000 := by
  unfold heldV
  have h1 : 0 ≤ L * t := Int.mul_nonneg hL ht
  have h2 : 0 ≤ 10 * M * min 6 (max 0 t) := Int.mul_nonneg (by omega) (by omega)
  omega
theorem ck_okDays : okDays none ckDays = true := by decide +kernel
theorem ck_days (M : Int) : (ckMoves M).map Mv.d = ckDays := by
  unfold ckMoves
  rw [List.map_map]
  have : (Mv.d ∘ ckMv M) = id := by funext d; rfl
  rw [this, List.map_id]
theorem ck_in : ∀ d ∈ ckDays, 0 ≤ d ∧ d ≤ 100000 := by decide +kernel
theorem ck_names : nameB caskS.data.toList = true ∧ endB caskS = true ∧ endB noneS = true := by decide +kernel
theorem ck_mvErr {M d : Int} (h0 : 0 ≤ M) (h1 : M ≤ 50) (hd : d ∈ ckDays) : moveE (ckMv M d) = 0 := by
  obtain ⟨a, b⟩ := ck_in d hd
  unfold moveE ckMv
  dsimp only
  have w1 : within d 0 100000 = true := by unfold within; simp; omega
  have w2 : within M 0 100000 = true := by unfold within; simp; omega
  rw [w1, w2, ck_names.2.1, ck_names.2.2, ck_eq.2.2]
  rfl
theorem ck_rdErr {V L M : Int} {x : Int × Int × Int} (hV : V ≤ 50000) (hL : 0 ≤ L) (hM : 0 ≤ M) (h : inRow V L M x) : rdErr (rdOf V L M x) = 0 := by
  obtain ⟨⟨h1, h2⟩, ⟨h3, h4⟩, ⟨h5, h6⟩, h7⟩ := h
  have ht := held_top hV hL hM h1
  unfold rdErr gaugingE rdOf
  dsimp only
  have w1 : within (1000 * x.1) 0 100000 = true := by unfold within; simp; omega
  have w2 : within (heldV V L M x.1 - x.2.1) 0 100000 = true := by unfold within; simp; omega
  have w3 : within (heldV V L M x.1 + x.2.2) 0 100000 = true := by unfold within; simp; omega
  have w4 : decide (heldV V L M x.1 - x.2.1 ≤ heldV V L M x.1 + x.2.2) = true := by simp; omega
  rw [w1, w2, w3, w4, ck_names.1]
  rfl
structure Cel (V L M l0 l1 : Int) (ds : List (Int × Int × Int)) : Prop where
  v : 0 ≤ V ∧ V ≤ 50000
  lo : 0 ≤ l0 ∧ l0 ≤ L
  hi : L ≤ l1 ∧ l1 ≤ 1000
  m : 0 ≤ M ∧ M ≤ 50
  n : 0 < ds.length ∧ ds.length ≤ 8
  rows : ∀ x ∈ ds, inRow V L M x
  up : okDays none (ds.map fun x => 1000 * x.1) = true
theorem cel_right {V L M l0 l1 : Int} {ds : List (Int × Int × Int)} (h : Cel V L M l0 l1 ds) : (checkB l0 l1 (ds.map (rdOf V L M)) (ckMoves M)).2 = 0 := by
  obtain ⟨hv, hlo, hhi, hm, hn, hr, hu⟩ := h
  unfold checkB bookE
  have w1 : within l0 0 100000 = true := by unfold within; simp; omega
  have w2 : within l1 0 100000 = true := by unfold within; simp; omega
  have w3 : decide (l0 ≤ l1) = true := by simp; omega
  have e1 : (ds.map (rdOf V L M)).length = ds.length := by simp
  have e2 : (ckMoves M).length = 60 := by simp [ckMoves, ckDays]
  have w4 : decide (((ds.map (rdOf V L M)).length : Int) ≤ 40) = true := by rw [e1]; simp; omega
  have w5 : decide (((ckMoves M).length : Int) ≤ 60) = true := by rw [e2]; rfl
  rw [w1, w2, w3, w4, w5]
  rw [if_pos (by rfl)]
  have d1 : (datedE rdErr Rd.d (ds.map (rdOf V L M)) none 0).2 = 0 := by
    refine datedE_ok _ _ _ ?_ ?_
    · intro x hx
      obtain ⟨y, hy, rfl⟩ := List.mem_map.1 hx
      exact ck_rdErr hv.2 (by omega) hm.1 (hr y hy)
    · rw [List.map_map]; exact hu
  have d2 : (datedE moveE Mv.d (ckMoves M) none 0).2 = 0 := by
    refine datedE_ok _ _ _ ?_ ?_
    · intro x hx
      obtain ⟨y, hy, rfl⟩ := List.mem_map.1 hx
      exact ck_mvErr hm.1 hm.2 hy
    · rw [ck_days]; exact ck_okDays
  rw [if_pos d1, if_pos d2]
theorem cel_pairs {V L M l0 l1 : Int} {ds : List (Int × Int × Int)} (h : Cel V L M l0 l1 ds) : allPairs l0 l1 (ds.map (rdOf V L M)) (ckMoves M) = [] := by
  unfold allPairs pout pin
  rw [List.flatMap_eq_nil_iff]
  intro i hi
  rw [List.map_eq_nil_iff, List.filter_eq_nil_iff]
  intro j hj
  have : contraAt l0 l1 (ds.map (rdOf V L M)) (ckMoves M) i j = false := by
    unfold contraAt
    rw [List.getElem?_map, List.getElem?_map]
    cases ex : ds[i]? with
    | none => rfl
    | some x =>
      cases ey : ds[j]? with
      | none => rfl
      | some y =>
        have hx := h.rows x (List.mem_of_getElem? ex)
        have hy := h.rows y (List.mem_of_getElem? ey)
        obtain ⟨t1, t2⟩ := truth_in (l0 := l0) (l1 := l1) x y.1 hx h.lo.2 h.hi.1 hy.1.1 hy.1.2
        obtain ⟨-, ⟨h3, h4⟩, ⟨h5, h6⟩, -⟩ := hy
        dsimp only [Option.map_some]
        unfold contra
        have e : (rdOf V L M y).d = 1000 * y.1 := rfl
        have e2 : (rdOf V L M y).hi = heldV V L M y.1 + y.2.2 := rfl
        have e3 : (rdOf V L M y).lo = heldV V L M y.1 - y.2.1 := rfl
        rw [e, e2, e3]
        have f1 : decide (1000 * (heldV V L M y.1 + y.2.2) < allowsLo l0 l1 (ckMoves M) (rdOf V L M x) (1000 * y.1)) = false := by simp; omega
        have f2 : decide (allowsHi l0 l1 (ckMoves M) (rdOf V L M x) (1000 * y.1) < 1000 * (heldV V L M y.1 - y.2.1)) = false := by simp; omega
        rw [f1, f2]
        simp
  simp [this]
theorem meet_truth {V L M l0 l1 : Int} {t : Int} (hl0 : l0 ≤ L) (hl1 : L ≤ l1) (ht : 0 ≤ t) (ht8 : t ≤ 8) : ∀ (ds : List (Int × Int × Int)) (o : Option (Int × Int)), (∀ x ∈ ds, inRow V L M x) →
    (∀ a b, o = some (a, b) → a ≤ 1000 * heldV V L M t ∧ 1000 * heldV V L M t ≤ b) →
    ∀ a b, (ds.map (rdOf V L M)).foldl (meet l0 l1 (ckMoves M) caskS (1000 * t)) o = some (a, b) → a ≤ 1000 * heldV V L M t ∧ 1000 * heldV V L M t ≤ b
  | [], o, _, ho, a, b, h => ho a b h
  | x :: ds, o, hr, ho, a, b, h => by
    rw [List.map_cons, List.foldl_cons] at h
    refine meet_truth hl0 hl1 ht ht8 ds _ (fun y hy => hr y (List.mem_cons_of_mem _ hy)) ?_ a b h
    intro a' b' hab
    obtain ⟨t1, t2⟩ := truth_in (l0 := l0) (l1 := l1) x t (hr x (List.mem_cons_self ..)) hl0 hl1 ht ht8
    unfold meet at hab
    have hc : (rdOf V L M x).c = caskS := rfl
    rw [hc, ck_eq.1, if_pos rfl] at hab
    cases o with
    | none =>
      simp only [Option.some.injEq, Prod.mk.injEq] at hab
      omega
    | some p =>
      obtain ⟨p1, p2⟩ := p
      simp only [Option.some.injEq, Prod.mk.injEq] at hab
      have := ho p1 p2 rfl
      omega
/-- What is told of the cask holds the truth. -/
theorem cel_told {V L M l0 l1 : Int} {ds : List (Int × Int × Int)} (h : Cel V L M l0 l1 ds) (t : Int) (ht : 0 ≤ t) (ht8 : t ≤ 8) :
    ∃ a b, volAtV l0 l1 (ds.map (rdOf V L M)) (ckMoves M) caskS (1000 * t) = ((a, b), 0) ∧ a ≤ heldV V L M t ∧ heldV V L M t ≤ b := by
  have hw : within (1000 * t) 0 100000 = true := by unfold within; simp; omega
  have hz : volAtE l0 l1 (ds.map (rdOf V L M)) (ckMoves M) caskS (1000 * t) = 0 := by
    unfold volAtE
    rw [cel_right h, ck_names.1, hw]
    rfl
  unfold volAtV
  rw [if_pos hz]
  unfold atV
  rw [cel_pairs h, if_neg (by simp [clashed])]
  cases hf : (ds.map (rdOf V L M)).foldl (meet l0 l1 (ckMoves M) caskS (1000 * t)) none with
  | none =>
    exfalso
    obtain ⟨x, hx⟩ : ∃ x, x ∈ ds := List.exists_mem_of_length_pos h.n.1
    exact meet_some _ none (.inr ⟨rdOf V L M x, List.mem_map.2 ⟨x, hx, rfl⟩, ck_eq.1⟩) hf
  | some p =>
    obtain ⟨a, b⟩ := p
    obtain ⟨m1, m2⟩ := meet_truth h.lo.2 h.hi.1 ht ht8 ds none h.rows (fun a b hab => by cases hab) a b hf
    refine ⟨_, _, rfl, ?_, ?_⟩
    · omega
    · omega
end Go.Proofs
