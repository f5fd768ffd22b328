import Derived.Test.YtpmliaildjomeaaGreatDoorMg31
import Derived.Test.YtpmliaildjomeaaGreatDoorMg9
import Derived.Test.YtpmliaildjomeaaGreatDoorMg30
import Derived.Carry
import Derived.Lib.SmallJoins
import Derived.Deep.Slices
import Derived.Deep.Fields
set_option linter.unusedSimpArgs false
set_option linter.unusedVariables false
namespace Go.Proofs
open Go.RowKit

def areaE (r l : Int) : Int := if within r 10 800 && within l (-r) r then 0 else 2
def areaV (r l : Int) : Int × Int := if areaE r l = 0 then areaOf r l else (0, 0)
theorem within_true {n lo hi : Int} (h : within n lo hi = true) : lo ≤ n ∧ n ≤ hi := by unfold within at h; simp at h; omega

end Go.Proofs

set_option linter.unusedSimpArgs false
set_option linter.unusedVariables false
namespace Go.Proofs
open Go.RowKit

structure St where
  at_ : Int
  inn : Int
  out : Int
def St.cs (x : St) : List Value := [.int .i64 x.at_, .int .i64 x.inn, .int .i64 x.out]
/-- The error of a station, given the one before. -/
def stE (bung : Int) (prev : Option Int) (s : St) : Int :=
  firstE [unl (within s.at_ 0 3000 && within s.inn 10 bung && within s.out 10 bung) 2, unl (decide (s.inn ≤ s.out) && (match prev with | none => true | some p => decide (p < s.at_))) 9]
def stationsE (bung : Int) : List St → Option Int → Nat → Int × Int
  | [], _, _ => (0, 0)
  | s :: l, prev, k => if stE bung prev s = 0 then stationsE bung l (some s.at_) (k + 1) else (k, stE bung prev s)
def caskHeadE (name : List UInt8) (bung : Int) (n : Nat) : Int :=
  firstE [unl (nameB name) 4, unl (within bung 10 800) 2, unl (decide (1 < (n : Int))) 10, unl (decide ((n : Int) ≤ 12)) 8]
def checkC (name : List UInt8) (bung : Int) (ss : List St) : Int × Int :=
  if caskHeadE name bung ss.length = 0 then stationsE bung ss none 0 else (0, caskHeadE name bung ss.length)

def CAt (bung : Int) (l : List St) (k : Nat) : Prop := stationsE bung l none 0 = stationsE bung (l.drop k) (if k = 0 then none else (l[k - 1]?).map St.at_) k
theorem cask_go {bung : Int} {l : List St} {k : Nat} {x : St} {p : Option Int} (h : CAt bung l k) (hx : Hid (l[k]? = some x)) (hp : Hid ((if k = 0 then none else (l[k - 1]?).map St.at_) = p)) (hz : Hid (stE bung p x = 0)) : CAt bung l (k + 1) := by
  unfold CAt at *
  obtain ⟨hi, hx'⟩ := List.getElem?_eq_some_iff.1 hx.out
  rw [h, List.drop_eq_getElem_cons hi, hx', stationsE, hp.out, if_pos hz.out]
  congr 1
  rw [if_neg (by omega), Nat.add_sub_cancel, hx.out]; rfl
theorem cask_stop {bung : Int} {l : List St} {k : Nat} {x : St} {p : Option Int} (h : CAt bung l k) (hx : Hid (l[k]? = some x)) (hp : Hid ((if k = 0 then none else (l[k - 1]?).map St.at_) = p)) (hz : Hid (¬ stE bung p x = 0)) :
    stationsE bung l none 0 = ((k : Int), stE bung p x) := by
  unfold CAt at *
  obtain ⟨hi, hx'⟩ := List.getElem?_eq_some_iff.1 hx.out
  rw [h, List.drop_eq_getElem_cons hi, hx', stationsE, hp.out, if_neg hz.out]
theorem cask_end {bung : Int} {l : List St} {k : Nat} (h : CAt bung l k) (hk : l.length ≤ k) : stationsE bung l none 0 = (0, 0) := by
  unfold CAt at h
  rw [h, List.drop_of_length_le hk]; rfl
theorem caskHeadE_zero {name : List UInt8} {bung : Int} {n : Nat} (h : caskHeadE name bung n = 0) : nameB name = true ∧ within bung 10 800 = true ∧ 1 < n ∧ n ≤ 12 := by
  unfold caskHeadE firstE unl at h
  by_cases h1 : nameB name = true <;> by_cases h2 : within bung 10 800 = true <;> by_cases h3 : 1 < (n : Int) <;> by_cases h4 : (n : Int) ≤ 12 <;> simp [h1, h2, h3, h4, firstE] at h
  exact ⟨h1, h2, by omega, by omega⟩

end Go.Proofs

/- Opening the arguments of the rows of chapter 4, and the row's last step for a walk that knows 'Below' alone. -/
namespace Go.Proofs
open Go.RowKit Go.WideShapes Go.ChangeShapes Go.Deep Go.Joins

section
variable {H : Type} {enc : TypeId × Value → H} {P : Program}
theorem trodAll_stays (hl : laidOutB P = true) {W W' : World} (hb : Below W.heap.size W W') : ∀ {ts : List TypeId} {vs : List Value} {ds : List (DataW H)} {ps : List MemPlace}, (∀ t ∈ ts, P.readableRec t = true ∧ t < P.types.size) →
    DataW.TrodAll enc P W 0 (fun _ => true) true ts vs ds ps → (∀ x ∈ ps, x.block < W.heap.size) → ∀ sp : Nat → Bool, (∀ x ∈ ps, sp x.block = true) → DataW.TrodAll enc P W' 0 sp true ts vs ds ps
  | [], vs, ds, ps, _, h, _, sp, _ => by
    obtain ⟨rfl, rfl, rfl⟩ := trodAll_nil h
    exact trodAll_mk0
  | t :: ts, vs, ds, ps, hr, h, hlt, sp, hsp => by
    obtain ⟨v, vs', d, ds', p, q, rfl, rfl, rfl, h0, h1⟩ := trodAll_cons h
    refine trodAll_cons_mk ?_ (trodAll_stays hl hb (fun u hu => hr u (by simp [hu])) h1 (fun x hx => hlt x (by simp [hx])) sp (fun x hx => hsp x (by simp [hx])))
    exact WideElems.Trod_stays hl (hr t (by simp)).1 (hr t (by simp)).2 h0 (fun x hx => hb.same (hlt x (by simp [hx]))) (fun x hx => hsp x (by simp [hx]))
end

/-! The kit's extra-structs.md section 1 offers these lines. -/
section
variable {H : Type} {enc : TypeId × Value → H} {P : Program} {w : World} {base : Nat} {spare : Nat → Bool} {held : Bool}
theorem open_slice_fields {t e : TypeId} {fs : Array Field} {fuel : Nat} {cs : List Value} {x : DataW H × List MemPlace} (ht : P.underlying t = some (.slice e)) (he : P.underlying e = some (.struct fs))
    (hone : oneCellFields P fs = true) (hC : P.cellsOf e = fs.size) (h : DataW.trod enc P w base spare held fuel t cs = some x) :
    (cs = [.slice none 0 0] ∧ x = (.nil, [])) ∨
    ∃ (a : Addr) (len cap m : Nat) (D : Nat → DataW H) (Pl : Nat → List MemPlace), cs = [.slice (some a) len cap] ∧ base ≤ a.block ∧ len ≤ cap ∧ cap ≤ maxLen ∧ m = (if spare a.block then cap else len) ∧
      x = (.slice ((List.range len).map D) ((List.range (m - len)).map fun j => D (len + j)), MemPlace.row a (m * fs.size) ++ (List.range m).flatMap Pl) ∧
      ∀ i, i < m → ∃ (ys : List (DataW H × List MemPlace)) (n : Nat), D i = .agg (ys.map (·.1)) ∧ Pl i = ys.flatMap (·.2) ∧ ys.length = fs.size ∧
        ∀ (j : Nat) (f : Field), fs[j]? = some f → ∃ (v : Value) (y : DataW H × List MemPlace), w.cell? (a.add (i * fs.size + j)) = some v ∧ ys[j]? = some y ∧ DataW.trod enc P w base spare held n f.type [v] = some y := by
  rcases open_slice ht h with h0 | ⟨a, len, cap, m, n, D, Pl, hcs, hb, hl, hm, hmm, hx, hi⟩
  · exact .inl h0
  · refine .inr ⟨a, len, cap, m, D, Pl, hcs, hb, hl, hm, hmm, by rw [hC] at hx; exact hx, fun i him => ?_⟩
    obtain ⟨cs', hc, ht'⟩ := hi i him
    rw [hC] at hc
    obtain ⟨ys, n', hn', hy, hlen, hyl, hf⟩ := DataW.trod_struct he ht'
    obtain ⟨_, hcl, hat⟩ := World.cells?_some hc
    simp only [Prod.mk.injEq] at hy
    refine ⟨ys, n', hy.1, hy.2, hyl, fun j f hj => ?_⟩
    obtain ⟨ho, hk⟩ := hone_of hone j f hj
    have hjl : j < fs.size := (Array.getElem?_eq_some_iff.1 hj).1
    have hcell := hat j hjl
    have hv : cs'[j]? = some (cs'[j]'(by omega)) := List.getElem?_eq_getElem (by omega)
    have h1 := hf j f hj
    rw [ho, hk] at h1
    have hone' : (cs'.drop j).take 1 = [cs'[j]'(by omega)] := by
      rw [List.drop_eq_getElem_cons (by omega)]
      rfl
    rw [hone'] at h1
    have hys : ys[j]? = some (ys[j]'(by omega)) := List.getElem?_eq_getElem (by omega)
    refine ⟨_, _, ?_, hys, h1.trans hys⟩
    rw [← Go.Deep.add_add, hcell, hv]
end

theorem addr_add {a : Addr} (h : a.spot = none) (n : Nat) : a.add n = ⟨a.block, a.off + n, none⟩ := by
  obtain ⟨b, o, s⟩ := a
  dsimp only at h
  subst h
  unfold Addr.add
  split
  · rename_i e; subst e; rfl
  · rfl
theorem spot_of_cell {W : World} {a : Addr} {v : Value} (h : W.cell? a = some v) : a.spot = none ∧ a.block < W.heap.size := by
  unfold World.cell? at h
  split at h
  · rename_i c t f e
    refine ⟨?_, (Array.getElem?_eq_some_iff.1 e).1⟩
    cases hs : a.spot with
    | none => rfl
    | some x => rw [hs] at h; simp at h
  · cases h
theorem at_of_cells {α : Type} {sz : Nat} {cs : α → List Value} {Q : α → Prop} {W : World} {a : Addr} (hsz : ∀ x, (cs x).length = sz) (h0 : 0 < sz) :
    ∀ len, (∀ i, i < len → ∃ x, Q x ∧ ∀ j v, (cs x)[j]? = some v → W.cell? (a.add (i * sz + j)) = some v) → ∃ l : List α, l.length = len ∧ At sz cs W (some a) l ∧ ∀ x ∈ l, Q x
  | 0, _ => ⟨[], rfl, fun k x hx => by simp at hx, fun x hx => by simp at hx⟩
  | n + 1, h => by
    obtain ⟨l, hl, hat, hq⟩ := at_of_cells hsz h0 n (fun i hi => h i (by omega))
    obtain ⟨x, hx, hc⟩ := h n (by omega)
    refine ⟨l ++ [x], by simp [hl], ?_, ?_⟩
    · intro k y hy
      by_cases hk : k < n
      · rw [List.getElem?_append_left (by omega)] at hy
        exact hat k y hy
      · have hk2 : k = n := by
          have := (List.getElem?_eq_some_iff.1 hy).1
          simp [hl] at this
          omega
        subst hk2
        rw [List.getElem?_append_right (by omega), hl, Nat.sub_self] at hy
        simp only [List.getElem?_cons_zero, Option.some.injEq] at hy
        subst hy
        obtain ⟨z, _, hz⟩ := h 0 (by omega)
        obtain ⟨v, hv⟩ : ∃ v, (cs z)[0]? = some v := ⟨(cs z)[0]'(by rw [hsz]; omega), List.getElem?_eq_getElem _⟩
        have hz0 := hz 0 v hv
        rw [Nat.zero_mul, Nat.add_zero] at hz0
        have e : a.add 0 = a := by unfold Addr.add; rw [if_pos rfl]
        rw [e] at hz0
        obtain ⟨hs, hb⟩ := spot_of_cell hz0
        refine ⟨a.block, a.off, ?_, hb, ?_⟩
        · obtain ⟨b, o, s⟩ := a
          dsimp only at hs
          subst hs
          rfl
        · intro j v hv
          have := hc j v hv
          rw [addr_add hs] at this
          rw [Nat.add_assoc]
          exact this
    · intro y hy
      rcases List.mem_append.1 hy with hy | hy
      · exact hq y hy
      · simp at hy; subst hy; exact hx

section
variable {H : Type} {enc : TypeId × Value → H} {w : World} {spare : Nat → Bool} {held : Bool}
end
end Go.Proofs
