import Derived.Test.YtpmliaildjomeaaGreatDoorMg4
set_option linter.unusedSimpArgs false
set_option linter.unusedVariables false
namespace Go.Proofs
open Go.RowKit

/-! Nets -/
def netStep (cask : ByteArray) (lo hi : Int) (s : Int) (m : Mv) : Int :=
  if m.d ≤ lo then s else if hi < m.d then s else
    (if eqS m.t cask then s + m.v else s) - (if eqS m.f cask then m.v else 0)
def netL (l : List Mv) (cask : ByteArray) (lo hi : Int) : Int := l.foldl (netStep cask lo hi) 0
theorem netStep_bd (cask : ByteArray) (lo hi s : Int) (m : Mv) (B : Int) (h1 : -B ≤ s) (h2 : s ≤ B) (h3 : 0 ≤ m.v) (h4 : m.v ≤ 100000) : -(B + 100000) ≤ netStep cask lo hi s m ∧ netStep cask lo hi s m ≤ B + 100000 := by
  unfold netStep
  repeat' split
  all_goals omega
theorem net_bd (cask : ByteArray) (lo hi : Int) : ∀ (l : List Mv) (s B : Int), (∀ m ∈ l, 0 ≤ m.v ∧ m.v ≤ 100000) → -B ≤ s → s ≤ B →
    -(B + 100000 * l.length) ≤ l.foldl (netStep cask lo hi) s ∧ l.foldl (netStep cask lo hi) s ≤ B + 100000 * l.length
  | [], s, B, _, h1, h2 => by simp; omega
  | m :: l, s, B, hm, h1, h2 => by
    have hx := hm m (by simp)
    have hs := netStep_bd cask lo hi s m B h1 h2 hx.1 hx.2
    have := net_bd cask lo hi l (netStep cask lo hi s m) (B + 100000) (fun x hxl => hm x (by simp [hxl])) (by omega) (by omega)
    simp only [List.foldl_cons, List.length_cons]
    omega
theorem net_take (cask : ByteArray) (lo hi : Int) (l : List Mv) (k : Nat) (hm : ∀ m ∈ l, 0 ≤ m.v ∧ m.v ≤ 100000) (hl : l.length ≤ 60) :
    -6000000 ≤ (l.take k).foldl (netStep cask lo hi) 0 ∧ (l.take k).foldl (netStep cask lo hi) 0 ≤ 6000000 := by
  have h := net_bd cask lo hi (l.take k) 0 0 (fun m hmk => hm m (List.mem_of_mem_take hmk)) (by omega) (by omega)
  have := List.length_take_le k l
  have h2 : (l.take k).length ≤ l.length := by simp; omega
  omega
theorem fold_snoc {α β : Type} (f : β → α → β) (l : List α) (k : Nat) (x : α) (b : β) (h : l[k]? = some x) : (l.take (k + 1)).foldl f b = f ((l.take k).foldl f b) x := by
  have hk : k < l.length := (List.getElem?_eq_some_iff.1 h).1
  rw [List.take_succ_eq_append_getElem hk, List.foldl_append]
  have : l[k] = x := by rw [List.getElem?_eq_getElem hk] at h; exact Option.some.inj h
  simp [this]

/-! What a gauging allows -/
def allowsLo (l0 l1 : Int) (l : List Mv) (x : Rd) (day : Int) : Int :=
  if 0 ≤ day - x.d then 1000 * (x.lo + netL l x.c x.d day) - l1 * (day - x.d) else 1000 * (x.lo - netL l x.c day x.d) + l0 * (x.d - day)
def allowsHi (l0 l1 : Int) (l : List Mv) (x : Rd) (day : Int) : Int :=
  if 0 ≤ day - x.d then 1000 * (x.hi + netL l x.c x.d day) - l0 * (day - x.d) else 1000 * (x.hi - netL l x.c day x.d) + l1 * (x.d - day)
theorem netL_bd (cask : ByteArray) (lo hi : Int) (l : List Mv) (hm : ∀ m ∈ l, 0 ≤ m.v ∧ m.v ≤ 100000) (hl : l.length ≤ 60) : -6000000 ≤ netL l cask lo hi ∧ netL l cask lo hi ≤ 6000000 := by
  have := net_take cask lo hi l l.length hm hl
  rwa [List.take_length] at this
theorem mul_bd (a b : Int) (h1 : 0 ≤ a) (h2 : a ≤ 100000) (h3 : 0 ≤ b) (h4 : b ≤ 100000) : 0 ≤ a * b ∧ a * b ≤ 10000000000 := by
  constructor
  · exact Int.mul_nonneg h1 h3
  · have := Int.mul_le_mul h2 h4 h3 (by omega : (0 : Int) ≤ 100000)
    omega

end Go.Proofs

set_option linter.unusedSimpArgs false
set_option linter.unusedVariables false
namespace Go.Proofs
open Go.RowKit
/-- Is a day no less than the one before? -/
def okDay : Option Int → Int → Bool
  | none, _ => true
  | some b, d => decide (b ≤ d)
/-- The first fault of a list of gaugings (moves): its number, and its error. -/
def datedE {α : Type} (err : α → Int) (day : α → Int) : List α → Option Int → Nat → Int × Int
  | [], _, _ => (-1, 0)
  | x :: l, before, k =>
    if firstE [err x, unl (okDay before (day x)) 9] = 0 then datedE err day l (some (day x)) (k + 1) else (k, firstE [err x, unl (okDay before (day x)) 9])
def rdErr (x : Rd) : Int := gaugingE x.c.data.toList x.d x.lo x.hi
def bef {α : Type} (day : α → Int) (l : List α) (k : Nat) : Option Int := if k = 0 then none else (l[k - 1]?).map day
def DatedAt {α : Type} (err : α → Int) (day : α → Int) (l : List α) (k : Nat) : Prop := datedE err day l none 0 = datedE err day (l.drop k) (bef day l k) k
theorem dated_go {α : Type} {err day : α → Int} {l : List α} {k : Nat} {x : α} {o : Bool} (h : DatedAt err day l k) (hx : Hid (l[k]? = some x)) (ho : Hid (okDay (bef day l k) (day x) = o)) {E : Int} (hE : Hid (err x = E)) (hz : Hid (firstE [E, unl o 9] = 0)) :
    DatedAt err day l (k + 1) := by
  unfold DatedAt at *
  obtain ⟨hi, hx'⟩ := List.getElem?_eq_some_iff.1 hx.out
  rw [h, List.drop_eq_getElem_cons hi, hx', datedE, ho.out, hE.out, if_pos hz.out]
  congr 1
  unfold bef
  rw [if_neg (by omega), Nat.add_sub_cancel, hx.out]; rfl
theorem dated_stop {α : Type} {err day : α → Int} {l : List α} {k : Nat} {x : α} {o : Bool} (h : DatedAt err day l k) (hx : Hid (l[k]? = some x)) (ho : Hid (okDay (bef day l k) (day x) = o)) {E : Int} (hE : Hid (err x = E)) (hz : Hid (¬ firstE [E, unl o 9] = 0)) :
    datedE err day l none 0 = ((k : Int), firstE [E, unl o 9]) := by
  unfold DatedAt at *
  obtain ⟨hi, hx'⟩ := List.getElem?_eq_some_iff.1 hx.out
  rw [h, List.drop_eq_getElem_cons hi, hx', datedE, ho.out, hE.out, if_neg hz.out]
theorem dated_end {α : Type} {err day : α → Int} {l : List α} {k : Nat} (h : DatedAt err day l k) (hk : l.length ≤ k) : datedE err day l none 0 = (-1, 0) := by
  unfold DatedAt at h
  rw [h, List.drop_of_length_le hk]; rfl
theorem bef_zero {α : Type} {day : α → Int} {l : List α} {k : Nat} {x : α} (hk : k = 0) : okDay (bef day l k) (day x) = true := by
  subst hk; rfl
theorem bef_succ {α : Type} {day : α → Int} {l : List α} {k q : Nat} {x y : α} (hk : k = q + 1) (hq : l[q]? = some y) : okDay (bef day l k) (day x) = decide (day y ≤ day x) := by
  subst hk; unfold bef; rw [if_neg (by omega), Nat.add_sub_cancel, hq]; rfl
theorem ret_two {a b a' b' : Int} {p : Int × Int} (h : p = (a', b')) (h1 : a' = a) (h2 : b' = b) : Ending.returned (.tuple #[.int .i64 a, .int .i64 b]) = .returned (.tuple #[.int .i64 p.1, .int .i64 p.2]) := by subst h h1 h2; rfl

end Go.Proofs

set_option linter.unusedSimpArgs false
set_option linter.unusedVariables false
namespace Go.Proofs
open Go.RowKit

/-- The first error of a book that is not of its lists. -/
def bookE (l0 l1 : Int) (n m : Nat) : Int :=
  firstE [unl (within l0 0 100000 && within l1 0 100000) 2, unl (decide (l0 ≤ l1)) 9, unl (decide ((n : Int) ≤ 40) && decide ((m : Int) ≤ 60)) 8]
/-- The mark and the error of a book. -/
def checkB (l0 l1 : Int) (rs : List Rd) (ms : List Mv) : (Int × Int) × Int :=
  if bookE l0 l1 rs.length ms.length = 0 then
    if (datedE rdErr Rd.d rs none 0).2 = 0 then
      if (datedE moveE Mv.d ms none 0).2 = 0 then ((0, 0), 0) else ((2, (datedE moveE Mv.d ms none 0).1), (datedE moveE Mv.d ms none 0).2)
    else ((1, (datedE rdErr Rd.d rs none 0).1), (datedE rdErr Rd.d rs none 0).2)
  else ((0, 0), bookE l0 l1 rs.length ms.length)
def bval (p : (Int × Int) × Int) : Value := .tuple #[.agg #[.int .i64 p.1.1, .int .i64 p.1.2], .int .i64 p.2]

end Go.Proofs
