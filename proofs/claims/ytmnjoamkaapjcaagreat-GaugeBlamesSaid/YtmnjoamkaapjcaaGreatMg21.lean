import Derived.WalkKit
import Derived.ProofKit
import Derived.OpenShut
import Derived.Below
import Derived.ChangeSame
import Derived.Test.YtmnjoamkaapjcaaGreatMg17
import Derived.Carry
import Derived.Lib.SmallJoins
import Derived.Deep.Slices
import Derived.Deep.Fields
/- The last step of a row whose walk ends in 'Below': the lines that the kit's extra-small.md section 9 offers to be laid into a claim. -/
set_option linter.unusedSimpArgs false
set_option linter.unusedVariables false
namespace Go.Proofs
open Go.RowKit Go.WideShapes Go.ChangeShapes
section
variable {H : Type} {enc : TypeId × Value → H} {P : Program}
theorem post_of_below {f : Func} {s : ChangeSpec} {apart fresh handsOn again : Bool} {W W' : World} {args : Array Value} {v : Value} {ds gs : List (DataW H)} {before pa pv : List MemPlace}
    (hW : DataW.Whole enc P f.params.toList s.vars apart W args.toList ds gs before)
    (hres : ∀ (b : Nat) (sp : Nat → Bool) (hd : Bool), DataW.TrodAll enc P W' b sp hd f.resultTypes.toList (v.resultList f.resultTypes.size) (s.fn H (ds ++ gs)).results [])
    (hargs : ∀ sp : Nat → Bool, (∀ p ∈ before, sp p.block = true) → DataW.TrodAll enc P W' 0 sp true f.params.toList args.toList (s.fn H (ds ++ gs)).args pa)
    (hvars : ∀ sp : Nat → Bool, (∀ p ∈ before, sp p.block = true) → DataW.TrodVars enc P W' sp s.vars (s.fn H (ds ++ gs)).vars pv)
    (hps : before = pa ++ pv) (hb : Below W.heap.size W W')
    (hok : ∀ (j : Nat) (t : TypeId) (r : Value), f.resultTypes[j]? = some t → (v.resultList f.resultTypes.size)[j]? = some r → Value.okWide P W' .any 0 t r) :
    s.post enc P f apart fresh handsOn again W args v W' := by
  have hlt : ∀ p ∈ before, p.block < W.heap.size := fun p hp => hW.lt p hp
  have hold : ∀ p ∈ before, (fun b => decide (b < W.heap.size)) p.block = true := fun p hp => by simpa using hlt p hp
  refine ⟨ds, gs, before, [], pa, pv, hW, hres _ _ _, hargs _ hold, hvars _ hold, World.keptBut_mono (fun p hp => ⟨hp, ?_⟩) (hb.frame (· ∈ before)), fun _ => ?_⟩
  · rw [hps, List.mem_append] at hp
    exact Or.inr hp
  · obtain ⟨_, _, _, _, _, hz, hn⟩ := hW
    refine ⟨hok, _, _, ([] ++ pa) ++ pv, ⟨[] ++ pa, pv, trodAll_append (hargs _ (fun _ _ => rfl)) (hres _ _ _), hvars _ (fun _ _ => rfl), rfl, ?_, ?_⟩, ?_⟩
    · intro b off hp
      have hin : MemPlace.cell b off ∈ before := by rw [hps]; simpa using hp
      rw [hb.frozen (hlt _ hin)]
      exact hz b off hin
    · intro ha
      have := hn ha
      rw [hps] at this
      simpa using this
    · intro p hp _
      rw [hps]
      simpa using hp
end
/-- An int of 64 bits lies between its ends. -/
theorem wf_i64 {n : Int} (h : (Lit.int .i64 n).wf = true) : -9223372036854775808 ≤ n ∧ n ≤ 9223372036854775807 := by
  simp only [Lit.wf, IntKind.min, IntKind.max, IntKind.signed, IntKind.bits, Bool.and_eq_true, decide_eq_true_eq, if_true] at h
  omega
end Go.Proofs

/- Opening the arguments of the rows of chapter 4, and the row's last step for a walk that knows 'Below' alone. -/
namespace Go.Proofs
open Go.RowKit Go.WideShapes Go.ChangeShapes Go.Deep Go.Joins

section
variable {H : Type} {enc : TypeId × Value → H} {P : Program}
theorem trodAll_stays (hl : laidOutB P = true) {W W' : World} (hb : Below W.heap.size W W') : ∀ {ts : List TypeId} {vs : List Value} {ds : List (DataW H)} {ps : List MemPlace}, (∀ t ∈ ts, P.readableRec t = true ∧ t < P.types.size) →
    DataW.TrodAll enc P W 0 (fun _ => true) true ts vs ds ps → (∀ x ∈ ps, x.block < W.heap.size) → ∀ sp : Nat → Bool, (∀ x ∈ ps, sp x.block = true) → DataW.TrodAll enc P W' 0 sp true ts vs ds ps
  | [], vs, ds, ps, _, h, _, sp, _ => by
    obtain ⟨rfl, rfl, rfl⟩ := trodAll_nil h
    exact trodAll_mk0
  | t :: ts, vs, ds, ps, hr, h, hlt, sp, hsp => by
    obtain ⟨v, vs', d, ds', p, q, rfl, rfl, rfl, h0, h1⟩ := trodAll_cons h
    refine trodAll_cons_mk ?_ (trodAll_stays hl hb (fun u hu => hr u (by simp [hu])) h1 (fun x hx => hlt x (by simp [hx])) sp (fun x hx => hsp x (by simp [hx])))
    exact WideElems.Trod_stays hl (hr t (by simp)).1 (hr t (by simp)).2 h0 (fun x hx => hb.same (hlt x (by simp [hx]))) (fun x hx => hsp x (by simp [hx]))
end

/-! The kit's extra-structs.md section 1 offers these lines. -/
section
variable {H : Type} {enc : TypeId × Value → H} {P : Program} {w : World} {base : Nat} {spare : Nat → Bool} {held : Bool}
theorem open_slice_fields {t e : TypeId} {fs : Array Field} {fuel : Nat} {cs : List Value} {x : DataW H × List MemPlace} (ht : P.underlying t = some (.slice e)) (he : P.underlying e = some (.struct fs))
    (hone : oneCellFields P fs = true) (hC : P.cellsOf e = fs.size) (h : DataW.trod enc P w base spare held fuel t cs = some x) :
    (cs = [.slice none 0 0] ∧ x = (.nil, [])) ∨
    ∃ (a : Addr) (len cap m : Nat) (D : Nat → DataW H) (Pl : Nat → List MemPlace), cs = [.slice (some a) len cap] ∧ base ≤ a.block ∧ len ≤ cap ∧ cap ≤ maxLen ∧ m = (if spare a.block then cap else len) ∧
      x = (.slice ((List.range len).map D) ((List.range (m - len)).map fun j => D (len + j)), MemPlace.row a (m * fs.size) ++ (List.range m).flatMap Pl) ∧
      ∀ i, i < m → ∃ (ys : List (DataW H × List MemPlace)) (n : Nat), D i = .agg (ys.map (·.1)) ∧ Pl i = ys.flatMap (·.2) ∧ ys.length = fs.size ∧
        ∀ (j : Nat) (f : Field), fs[j]? = some f → ∃ (v : Value) (y : DataW H × List MemPlace), w.cell? (a.add (i * fs.size + j)) = some v ∧ ys[j]? = some y ∧ DataW.trod enc P w base spare held n f.type [v] = some y := by
  rcases open_slice ht h with h0 | ⟨a, len, cap, m, n, D, Pl, hcs, hb, hl, hm, hmm, hx, hi⟩
  · exact .inl h0
  · refine .inr ⟨a, len, cap, m, D, Pl, hcs, hb, hl, hm, hmm, by rw [hC] at hx; exact hx, fun i him => ?_⟩
    obtain ⟨cs', hc, ht'⟩ := hi i him
    rw [hC] at hc
    obtain ⟨ys, n', hn', hy, hlen, hyl, hf⟩ := DataW.trod_struct he ht'
    obtain ⟨_, hcl, hat⟩ := World.cells?_some hc
    simp only [Prod.mk.injEq] at hy
    refine ⟨ys, n', hy.1, hy.2, hyl, fun j f hj => ?_⟩
    obtain ⟨ho, hk⟩ := hone_of hone j f hj
    have hjl : j < fs.size := (Array.getElem?_eq_some_iff.1 hj).1
    have hcell := hat j hjl
    have hv : cs'[j]? = some (cs'[j]'(by omega)) := List.getElem?_eq_getElem (by omega)
    have h1 := hf j f hj
    rw [ho, hk] at h1
    have hone' : (cs'.drop j).take 1 = [cs'[j]'(by omega)] := by
      rw [List.drop_eq_getElem_cons (by omega)]
      rfl
    rw [hone'] at h1
    have hys : ys[j]? = some (ys[j]'(by omega)) := List.getElem?_eq_getElem (by omega)
    refine ⟨_, _, ?_, hys, h1.trans hys⟩
    rw [← Go.Deep.add_add, hcell, hv]
end

theorem addr_add {a : Addr} (h : a.spot = none) (n : Nat) : a.add n = ⟨a.block, a.off + n, none⟩ := by
  obtain ⟨b, o, s⟩ := a
  dsimp only at h
  subst h
  unfold Addr.add
  split
  · rename_i e; subst e; rfl
  · rfl
theorem spot_of_cell {W : World} {a : Addr} {v : Value} (h : W.cell? a = some v) : a.spot = none ∧ a.block < W.heap.size := by
  unfold World.cell? at h
  split at h
  · rename_i c t f e
    refine ⟨?_, (Array.getElem?_eq_some_iff.1 e).1⟩
    cases hs : a.spot with
    | none => rfl
    | some x => rw [hs] at h; simp at h
  · cases h
theorem at_of_cells {α : Type} {sz : Nat} {cs : α → List Value} {Q : α → Prop} {W : World} {a : Addr} (hsz : ∀ x, (cs x).length = sz) (h0 : 0 < sz) :
    ∀ len, (∀ i, i < len → ∃ x, Q x ∧ ∀ j v, (cs x)[j]? = some v → W.cell? (a.add (i * sz + j)) = some v) → ∃ l : List α, l.length = len ∧ At sz cs W (some a) l ∧ ∀ x ∈ l, Q x
  | 0, _ => ⟨[], rfl, fun k x hx => by simp at hx, fun x hx => by simp at hx⟩
  | n + 1, h => by
    obtain ⟨l, hl, hat, hq⟩ := at_of_cells hsz h0 n (fun i hi => h i (by omega))
    obtain ⟨x, hx, hc⟩ := h n (by omega)
    refine ⟨l ++ [x], by simp [hl], ?_, ?_⟩
    · intro k y hy
      by_cases hk : k < n
      · rw [List.getElem?_append_left (by omega)] at hy
        exact hat k y hy
      · have hk2 : k = n := by
          have := (List.getElem?_eq_some_iff.1 hy).1
          simp [hl] at this
          omega
        subst hk2
        rw [List.getElem?_append_right (by omega), hl, Nat.sub_self] at hy
        simp only [List.getElem?_cons_zero, Option.some.injEq] at hy
        subst hy
        obtain ⟨z, _, hz⟩ := h 0 (by omega)
        obtain ⟨v, hv⟩ : ∃ v, (cs z)[0]? = some v := ⟨(cs z)[0]'(by rw [hsz]; omega), List.getElem?_eq_getElem _⟩
        have hz0 := hz 0 v hv
        rw [Nat.zero_mul, Nat.add_zero] at hz0
        have e : a.add 0 = a := by unfold Addr.add; rw [if_pos rfl]
        rw [e] at hz0
        obtain ⟨hs, hb⟩ := spot_of_cell hz0
        refine ⟨a.block, a.off, ?_, hb, ?_⟩
        · obtain ⟨b, o, s⟩ := a
          dsimp only at hs
          subst hs
          rfl
        · intro j v hv
          have := hc j v hv
          rw [addr_add hs] at this
          rw [Nat.add_assoc]
          exact this
    · intro y hy
      rcases List.mem_append.1 hy with hy | hy
      · exact hq y hy
      · simp at hy; subst hy; exact hx

section
variable {H : Type} {enc : TypeId × Value → H} {w : World} {spare : Nat → Bool} {held : Bool}
set_option maxRecDepth 100000 in
theorem open_stations {fuel : Nat} {v : Value} {y : DataW H × List MemPlace} (h : DataW.trod enc Tryz.prog w 0 spare held fuel 57 [v] = some y) :
    ∃ (A : Option Addr) (ss : List St) (c : Nat), v = .slice A ss.length c ∧ At 3 St.cs w A ss ∧ ss.length ≤ c ∧ c ≤ maxLen ∧ (A = none → c = 0) := by
  rcases open_slice_fields Tryz.underlying57 Tryz.underlying103 (by kernel_rfl) (by kernel_rfl) h with ⟨hc, -⟩ | ⟨a, len, cap, m, D, Pl, hc, -, hl, hm, hmm, -, hf⟩
  · simp only [List.cons.injEq, and_true] at hc
    exact ⟨none, [], 0, hc, fun k x hx => by simp at hx, Nat.le_refl _, by decide, fun _ => rfl⟩
  · simp only [List.cons.injEq, and_true] at hc
    have hlm : len ≤ m := by rw [hmm]; split <;> omega
    obtain ⟨l, hll, hat, -⟩ := at_of_cells (cs := St.cs) (sz := 3) (Q := fun _ => True) (W := w) (a := a) (fun _ => rfl) (by omega) len (fun i hi => by
      obtain ⟨ys, n, -, -, -, hg⟩ := hf i (by omega)
      obtain ⟨v0, y0, c0, -, t0⟩ := hg 0 _ rfl
      obtain ⟨v1, y1, c1, -, t1⟩ := hg 1 _ rfl
      obtain ⟨v2, y2, c2, -, t2⟩ := hg 2 _ rfl
      obtain ⟨x0, e0, -, -⟩ := DataW.trod_int Tryz.underlying3 t0
      obtain ⟨x1, e1, -, -⟩ := DataW.trod_int Tryz.underlying3 t1
      obtain ⟨x2, e2, -, -⟩ := DataW.trod_int Tryz.underlying3 t2
      simp only [List.cons.injEq, and_true] at e0 e1 e2
      subst e0 e1 e2
      refine ⟨⟨x0, x1, x2⟩, trivial, ?_⟩
      intro j v hv
      match j, hv with
      | 0, rfl => exact c0
      | 1, rfl => exact c1
      | 2, rfl => exact c2)
    subst hll
    exact ⟨some a, l, cap, hc, hat, hl, hm, fun h => by cases h⟩
set_option maxRecDepth 100000 in
theorem open_cask {v : Value} {d : DataW H} {p : List MemPlace} (hv : Value.okWide Tryz.prog w .any 0 59 v) (h : DataW.Trod enc Tryz.prog w 0 spare held 59 v d p) :
    ∃ (s : ByteArray) (bung : Int) (A : Option Addr) (ss : List St) (c : Nat), v = .agg #[.string s, .int .i64 bung, .slice A ss.length c] ∧ s.size ≤ maxLen ∧ (Lit.int .i64 bung).wf = true ∧ At 3 St.cs w A ss ∧ ss.length ≤ c ∧ c ≤ maxLen ∧ (A = none → c = 0) := by
  obtain ⟨v0, v1, v2, y0, y1, y2, n, rfl, -, -, t0, t1, t2⟩ := open_agg3 Tryz.underlying59 (by kernel_rfl) (by kernel_rfl) hv h
  obtain ⟨s, e0, -, hs⟩ := DataW.trod_string Tryz.underlying9 t0
  obtain ⟨b, e1, -, hb⟩ := DataW.trod_int Tryz.underlying3 t1
  obtain ⟨A, ss, c, rfl, hat, hl, hm, hA⟩ := open_stations t2
  simp only [List.cons.injEq, and_true] at e0 e1
  subst e0 e1
  exact ⟨s, b, A, ss, c, rfl, hs, hb, hat, hl, hm, hA⟩
end
end Go.Proofs
