import Derived.Test.YtpmliaildjomeaaGreatDoorMg41
import Derived.Test.YtpmliaildjomeaaGreatDoorMg32
import Derived.Test.YtpmliaildjomeaaGreatDoorMg30
import Derived.OpenShut
import Derived.Lib.LaidU8
import Derived.Lib.LaidTab
import Derived.LaidLaws
import Derived.Lay
import Derived.Handed
import Derived.HandedShaped
set_option linter.unusedSimpArgs false
set_option linter.unusedVariables false
namespace Go.Proofs
open Go Go.RowKit
section
variable {H : Type} {enc : TypeId × Value → H}
/-- The wrap of a law whose row lists variables, with the world's shape handed on. -/
theorem of_change_and_shaped {a : Assume} {C : Checked} {os : Os} {f : FuncId} {fn : Func} {s : ChangeSpec} {conds : List PathCond} {apart fresh handsOn again : Bool} {X : World → Array Value → Prop}
    (hX : ∀ (w w' : World) (args : Array Value), w.heap = w'.heap → X w args → X w' args)
    (own : ownKnob C.prog.godebug = none) (started : os.Started) (noInit : C.prog.inits.idxOf? f = none) (hfn : C.prog.funcs[f]? = some fn)
    (witness : ∃ (w : World) (tape : Tape) (i : Input), w.os = os ∧ (w.forCall tape i).Shaped C.prog ∧ i.vars = [] ∧ Input.okWide C.prog (w.forCall tape i) .any w.heap.size f i ∧
      ((s.pre enc C.prog fn conds apart (w.forCall tape i).memory i.args ∧ X (w.forCall tape i).memory i.args) ∧ sizedMet enc C.prog fn (OpenSpec.ofChange s) apart (w.forCall tape i).memory i.args) ∧ a.holds C.prog (lone (Frame.enter C.prog f i.args .normal) [] (w.forCall tape i)))
    (contract : ∀ (W : World) (base : Nat) (args : Array Value) (ds gs : List (DataW H)) (before : List MemPlace),
      (∀ (j : Nat) t v, fn.params[j]? = some t → args[j]? = some v → Value.okWide C.prog W .any base t v) →
      DataW.Whole enc C.prog fn.params.toList s.vars apart W args.toList ds gs before → X W args → W.ShapedOpen C.prog →
      Calls C.prog f args W fun e W' => ∃ v, e = .returned v ∧ s.post enc C.prog fn apart fresh handsOn again W args v W') :
    ReturnsInHanded a C os f .any (fun w args => (s.pre enc C.prog fn conds apart w args ∧ X w args) ∧ sizedMet enc C.prog fn (OpenSpec.ofChange s) apart w args) (s.post enc C.prog fn apart fresh handsOn again) := by
  refine returnsInHanded_of_calls own started noInit witness ?_
  intro w tape i _ hsh _ hok hpre hholds
  obtain ⟨_, _, _, fn', hfn', _, _, _, _, hval⟩ := hok
  have e : fn' = fn := Option.some.inj (hfn'.symm.trans hfn)
  subst e
  obtain ⟨⟨⟨ds, gs, before, hw, hc⟩, hx⟩, hz⟩ := hpre
  have hw' := DataW.Whole.of_heap (w' := w.forCall tape i) (by rfl) hw
  refine (contract (w.forCall tape i) w.heap.size i.args ds gs before hval hw' (hX _ _ _ (by rfl) hx) hsh).mono fun e W' ⟨v, he, hp⟩ => ?_
  subst he
  exact ChangeSpec.post_blind hp
end
theorem tabIs_of_reads {P : Program} {W : World} {name : String} {k : IntKind} {zs : List Int} {g : Nat} {t e : TypeId} {n : Nat}
    (hg : P.globalNamed name = some g) (hty : (P.globals[g]?).map (·.type) = some t) (ht : P.underlying t = some (.array n e)) (he : P.underlying e = some (.int k)) (hce : P.cellsOf e = 1) (hct : P.cellsOf t = n)
    (h : Lib.VarReads P W name (Lib.tabData k zs)) : Lib.TabIs P W name k zs := by
  obtain ⟨g', t', cs, fuel, p, hg', ht', hvar, hd⟩ := h
  obtain rfl := Option.some.inj (hg.symm.trans hg')
  obtain rfl := Option.some.inj (hty.symm.trans ht')
  unfold Lib.TabIs
  rw [hvar, ← Lib.cells_of_tab ht he hce hct hd]
open Go.WideShapes Go.ChangeShapes Go.Deep Go.Joins
section
variable {H : Type} {enc : TypeId × Value → H} {w : World} {spare : Nat → Bool} {held : Bool}
/-- A slice of structs of any cells, opened. -/
theorem open_flat {α : Type} {t e sz : Nat} {cs : α → List Value} {Q : α → Prop} {fuel : Nat} {v : Value} {y : DataW H × List MemPlace} (ht : Tryz.prog.underlying t = some (.slice e)) (hC : Tryz.prog.cellsOf e = sz) (h0 : 0 < sz) (hsz : ∀ x, (cs x).length = sz)
    (ho : ∀ {n : Nat} {l : List Value} {x : DataW H × List MemPlace}, l.length = sz → DataW.trod enc Tryz.prog w 0 spare held n e l = some x → ∃ r : α, l = cs r ∧ Q r)
    (h : DataW.trod enc Tryz.prog w 0 spare held fuel t [v] = some y) :
    ∃ (A : Option Addr) (rs : List α) (c : Nat), v = .slice A rs.length c ∧ At sz cs w A rs ∧ rs.length ≤ c ∧ c ≤ maxLen ∧ (A = none → c = 0) ∧ ∀ x ∈ rs, Q x := by
  rcases open_slice ht h with ⟨hc, -⟩ | ⟨a, len, cap, m, n, D, Pl, hc, -, hl, hm, hmm, -, hf⟩
  · simp only [List.cons.injEq, and_true] at hc
    exact ⟨none, [], 0, hc, fun k x hx => by simp at hx, Nat.le_refl _, by decide, fun _ => rfl, fun x hx => by simp at hx⟩
  · simp only [List.cons.injEq, and_true] at hc
    have hlm : len ≤ m := by rw [hmm]; split <;> omega
    obtain ⟨l, hll, hat, hq⟩ := at_of_cells (cs := cs) (sz := sz) (Q := Q) (W := w) (a := a) hsz h0 len (fun i hi => by
      obtain ⟨cs', hcs, htr⟩ := hf i (by omega)
      rw [hC] at hcs
      obtain ⟨_, hcl, hat⟩ := World.cells?_some hcs
      obtain ⟨r, hr, hq⟩ := ho hcl htr
      refine ⟨r, hq, fun j u hu => ?_⟩
      rw [← hr] at hu
      have hj : j < sz := by have := (List.getElem?_eq_some_iff.1 hu).1; rw [hr, hsz] at this; exact this
      have := hat j hj
      rw [hu] at this
      rw [← Go.Deep.add_add]
      exact this)
    subst hll
    exact ⟨some a, l, cap, hc, hat, hl, hm, (fun h => by cases h), hq⟩
theorem open_intsC {fuel : Nat} {v : Value} {y : DataW H × List MemPlace} (h : DataW.trod enc Tryz.prog w 0 spare held fuel 33 [v] = some y) :
    ∃ (A : Option Addr) (l : List Int) (c : Nat), v = .slice A l.length c ∧ At 1 Zc w A l ∧ l.length ≤ c ∧ c ≤ maxLen ∧ (A = none → c = 0) := by
  obtain ⟨A, l, c, h1, h2, h3, h4, h5, -⟩ := open_flat (cs := Zc) (sz := 1) (Q := fun _ => True) Tryz.underlying33 (by kernel_rfl) (by omega) (fun _ => rfl) (fun {n l x} hl ht => by
    obtain ⟨a, e0, -, -⟩ := DataW.trod_int Tryz.underlying3 ht
    exact ⟨a, e0, trivial⟩) h
  exact ⟨A, l, c, h1, h2, h3, h4, h5⟩
set_option maxRecDepth 100000 in
theorem open_rangeC {n t : Nat} {c0 c1 : Value} {x : DataW H × List MemPlace} (ht : t = 69) (h : DataW.trod enc Tryz.prog w 0 spare held n t [c0, c1] = some x) : ∃ a b : Int, c0 = .int .i64 a ∧ c1 = .int .i64 b := by
  subst ht
  obtain ⟨ys, m, -, -, -, hyl, hf⟩ := DataW.trod_struct Tryz.underlying69 h
  have k : Tryz.prog.cellsOf 3 = 1 := by kernel_rfl
  match ys, hyl with
  | [y0, y1], _ =>
    have g0 : DataW.trod enc Tryz.prog w 0 spare held m 3 ((List.drop 0 [c0, c1]).take (Tryz.prog.cellsOf 3)) = some y0 := hf 0 _ rfl
    have g1 : DataW.trod enc Tryz.prog w 0 spare held m 3 ((List.drop 1 [c0, c1]).take (Tryz.prog.cellsOf 3)) = some y1 := hf 1 _ rfl
    rw [k] at g0 g1
    simp only [List.drop_zero, List.drop_succ_cons, List.take_succ_cons, List.take_zero] at g0 g1
    obtain ⟨a, e0, -, -⟩ := DataW.trod_int Tryz.underlying3 g0
    obtain ⟨b, e1, -, -⟩ := DataW.trod_int Tryz.underlying3 g1
    simp only [List.cons.injEq, and_true] at e0 e1
    exact ⟨a, b, e0, e1⟩
set_option maxRecDepth 100000 in
theorem open_partC {n : Nat} {cs : List Value} {x : DataW H × List MemPlace} (hl : cs.length = 5) (h : DataW.trod enc Tryz.prog w 0 spare held n 71 cs = some x) : ∃ y : Pa, cs = y.cs ∧ True := by
  obtain ⟨ys, m, -, -, -, hyl, hf⟩ := DataW.trod_struct Tryz.underlying71 h
  have k9 : Tryz.prog.cellsOf 9 = 1 := by kernel_rfl
  have kg : Tryz.prog.cellsOf 69 = 2 := by kernel_rfl
  match cs, hl with
  | [c0, c1, c2, c3, c4], _ =>
    match ys, hyl with
    | [y0, y1, y2], _ =>
      have g0 : DataW.trod enc Tryz.prog w 0 spare held m 9 ((List.drop 0 [c0, c1, c2, c3, c4]).take (Tryz.prog.cellsOf 9)) = some y0 := hf 0 _ rfl
      have g1 : DataW.trod enc Tryz.prog w 0 spare held m 69 ((List.drop 1 [c0, c1, c2, c3, c4]).take (Tryz.prog.cellsOf 69)) = some y1 := hf 1 _ rfl
      have g2 : DataW.trod enc Tryz.prog w 0 spare held m 69 ((List.drop 3 [c0, c1, c2, c3, c4]).take (Tryz.prog.cellsOf 69)) = some y2 := hf 2 _ rfl
      rw [k9] at g0
      rw [kg] at g1 g2
      simp only [List.drop_zero, List.drop_succ_cons, List.take_succ_cons, List.take_zero] at g0 g1 g2
      obtain ⟨s, e0, -, hs⟩ := DataW.trod_string Tryz.underlying9 g0
      obtain ⟨a, b, rfl, rfl⟩ := open_rangeC rfl g1
      obtain ⟨c, d, rfl, rfl⟩ := open_rangeC rfl g2
      simp only [List.cons.injEq, and_true] at e0
      subst e0
      exact ⟨⟨s, a, b, c, d⟩, rfl, trivial⟩
set_option maxRecDepth 100000 in
theorem open_entryC {n : Nat} {cs : List Value} {x : DataW H × List MemPlace} (hl : cs.length = 3) (h : DataW.trod enc Tryz.prog w 0 spare held n 73 cs = some x) : ∃ y : En, cs = y.cs ∧ (At 1 Zc w y.A y.co ∧ (y.A = none → y.c = 0)) := by
  obtain ⟨ys, m, -, -, -, hyl, hf⟩ := DataW.trod_struct Tryz.underlying73 h
  have k9 : Tryz.prog.cellsOf 9 = 1 := by kernel_rfl
  have ki : Tryz.prog.cellsOf 33 = 1 := by kernel_rfl
  have k3 : Tryz.prog.cellsOf 3 = 1 := by kernel_rfl
  match cs, hl with
  | [c0, c1, c2], _ =>
    match ys, hyl with
    | [y0, y1, y2], _ =>
      have g0 : DataW.trod enc Tryz.prog w 0 spare held m 9 ((List.drop 0 [c0, c1, c2]).take (Tryz.prog.cellsOf 9)) = some y0 := hf 0 _ rfl
      have g1 : DataW.trod enc Tryz.prog w 0 spare held m 33 ((List.drop 1 [c0, c1, c2]).take (Tryz.prog.cellsOf 33)) = some y1 := hf 1 _ rfl
      have g2 : DataW.trod enc Tryz.prog w 0 spare held m 3 ((List.drop 2 [c0, c1, c2]).take (Tryz.prog.cellsOf 3)) = some y2 := hf 2 _ rfl
      rw [k9] at g0
      rw [ki] at g1
      rw [k3] at g2
      simp only [List.drop_zero, List.drop_succ_cons, List.take_succ_cons, List.take_zero] at g0 g1 g2
      obtain ⟨s, e0, -, hs⟩ := DataW.trod_string Tryz.underlying9 g0
      obtain ⟨A, co, c, rfl, p1, p2, p3, p4⟩ := open_intsC g1
      obtain ⟨mo, e2, -, -⟩ := DataW.trod_int Tryz.underlying3 g2
      simp only [List.cons.injEq, and_true] at e0 e2
      subst e0
      subst e2
      exact ⟨⟨s, A, c, co, mo⟩, rfl, p1, p4⟩
set_option maxRecDepth 100000 in
theorem open_bookC {v : Value} {d : DataW H} {p : List MemPlace} (hv : Value.okWide Tryz.prog w .any 0 25 v) (h : DataW.Trod enc Tryz.prog w 0 spare held 25 v d p) :
    ∃ (pA eA : Option Addr) (ps : List Pa) (es : List En) (pc ec : Nat), v = .agg #[.slice pA ps.length pc, .slice eA es.length ec] ∧ BookAt w pA pc ps eA ec es := by
  obtain ⟨cs, rfl, hsz⟩ := okWide_struct Tryz.underlying25 hv
  have h3 : cs.size = 2 := hsz.trans (by kernel_rfl)
  obtain ⟨l⟩ := cs
  match l, h3 with
  | [c0, c1], _ =>
    obtain ⟨fuel, hf'⟩ := h
    obtain ⟨ys, m, -, -, hlen, hyl, hf⟩ := DataW.trod_struct Tryz.underlying25 hf'
    have k22 : Tryz.prog.cellsOf 22 = 1 := by kernel_rfl
    have k23 : Tryz.prog.cellsOf 23 = 1 := by kernel_rfl
    match ys, hyl with
    | [y0, y1], _ =>
      have g0 : DataW.trod enc Tryz.prog w 0 spare held m 22 ((List.drop 0 [c0, c1]).take (Tryz.prog.cellsOf 22)) = some y0 := hf 0 _ rfl
      have g1 : DataW.trod enc Tryz.prog w 0 spare held m 23 ((List.drop 1 [c0, c1]).take (Tryz.prog.cellsOf 23)) = some y1 := hf 1 _ rfl
      rw [k22] at g0
      rw [k23] at g1
      simp only [List.drop_zero, List.drop_succ_cons, List.take_succ_cons, List.take_zero] at g0 g1
      obtain ⟨pA, ps, pc, rfl, p1, p2, p3, -, -⟩ := open_flat (cs := Pa.cs) (sz := 5) (Q := fun _ => True) Tryz.underlying22 (by kernel_rfl) (by omega) (fun _ => rfl) open_partC g0
      obtain ⟨eA, es, ec, rfl, q1, q2, q3, -, q4⟩ := open_flat (cs := En.cs) (sz := 3) (Q := fun y : En => At 1 Zc w y.A y.co ∧ (y.A = none → y.c = 0)) Tryz.underlying23 (by kernel_rfl) (by omega) (fun _ => rfl) open_entryC g1
      exact ⟨pA, eA, ps, es, pc, ec, rfl, ⟨p1, ⟨q1, fun x hx => (q4 x hx).1⟩, p2, q2, fun x hx => (q4 x hx).2⟩⟩
set_option maxRecDepth 100000 in
theorem open_askC {v : Value} {d : DataW H} {p : List MemPlace} (hv : Value.okWide Tryz.prog w .any 0 27 v) (h : DataW.Trod enc Tryz.prog w 0 spare held 27 v d p) :
    ∃ k ag : Int, v = .agg #[.int .i64 k, .int .i64 ag] := by
  obtain ⟨cs, rfl, hsz⟩ := okWide_struct Tryz.underlying27 hv
  have h3 : cs.size = 2 := hsz.trans (by kernel_rfl)
  obtain ⟨l⟩ := cs
  match l, h3 with
  | [c0, c1], _ =>
    obtain ⟨fuel, hf'⟩ := h
    obtain ⟨ys, m, -, -, hlen, hyl, hf⟩ := DataW.trod_struct Tryz.underlying27 hf'
    have k3 : Tryz.prog.cellsOf 3 = 1 := by kernel_rfl
    match ys, hyl with
    | [y0, y1], _ =>
      have g0 : DataW.trod enc Tryz.prog w 0 spare held m 3 ((List.drop 0 [c0, c1]).take (Tryz.prog.cellsOf 3)) = some y0 := hf 0 _ rfl
      have g1 : DataW.trod enc Tryz.prog w 0 spare held m 3 ((List.drop 1 [c0, c1]).take (Tryz.prog.cellsOf 3)) = some y1 := hf 1 _ rfl
      rw [k3] at g0 g1
      simp only [List.drop_zero, List.drop_succ_cons, List.take_succ_cons, List.take_zero] at g0 g1
      obtain ⟨a, e0, -, -⟩ := DataW.trod_int Tryz.underlying3 g0
      obtain ⟨b, e1, -, -⟩ := DataW.trod_int Tryz.underlying3 g1
      simp only [List.cons.injEq, and_true] at e0 e1
      exact ⟨a, b, by rw [e0, e1]⟩
end
end Go.Proofs
