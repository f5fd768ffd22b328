import Derived.Test.YtjfdjjekonkgjaaZf
import Derived.Test.YtjfdjjekonkgjaaBk
import Derived.Test.YtjfdjjekonkgjaaDw
set_option linter.unusedSimpArgs false
set_option linter.unusedVariables false
namespace Go.Proofs
open Go.RowKit

/-- A block that holds stations, and may be written. -/
def OwnSt (w : World) (b : Nat) (l : List St) : Prop := ∃ cur, w.heap[b]? = some (.cells cur 44 (0, 0)) ∧ ∀ (k : Nat) (x : St), l[k]? = some x → cur[k * 3]? = some (.int .i64 x.at_) ∧ cur[k * 3 + 1]? = some (.int .i64 x.inn) ∧ cur[k * 3 + 2]? = some (.int .i64 x.out)
theorem OwnSt.below {w w' : World} {b : Nat} {l : List St} (h : OwnSt w b l) (hb : Below w.heap.size w w') : OwnSt w' b l := by
  obtain ⟨cur, h1, h2⟩ := h
  exact ⟨cur, bk_keep hb h1, h2⟩
theorem OwnSt.alloc {w : World} {b : Nat} {l : List St} (h : OwnSt w b l) (o : Obj) : OwnSt (w.alloc o) b l := by
  obtain ⟨cur, h1, h2⟩ := h
  exact ⟨cur, bk_alloc h1 _, h2⟩
theorem OwnSt.other {w : World} {b : Nat} {l : List St} (h : OwnSt w b l) {p : Addr} (hne : b ≠ p.block) (u : Value) : OwnSt (w.setCell p u) b l := by
  obtain ⟨cur, h1, h2⟩ := h
  exact ⟨cur, bk_set h1 hne _, h2⟩
theorem OwnSt.cells {w : World} {b : Nat} {l : List St} (h : OwnSt w b l) {k : Nat} {x : St} (hx : l[k]? = some x) :
    w.cell? ⟨b, k * 3, none⟩ = some (.int .i64 x.at_) ∧ w.cell? ⟨b, k * 3 + 1, none⟩ = some (.int .i64 x.inn) ∧ w.cell? ⟨b, k * 3 + 2, none⟩ = some (.int .i64 x.out) ∧
    w.frozen? ⟨b, k * 3 + 1, none⟩ = false ∧ w.frozen? ⟨b, k * 3 + 2, none⟩ = false ∧ b < w.heap.size := by
  obtain ⟨cur, h1, h2⟩ := h
  obtain ⟨a1, a2, a3⟩ := h2 k x hx
  exact ⟨(bk_cell h1 _).trans a1, (bk_cell h1 _).trans a2, (bk_cell h1 _).trans a3, bk_free h1 _, bk_free h1 _, bk_size h1⟩
theorem OwnSt.at {w : World} {b : Nat} {l : List St} (h : OwnSt w b l) : At 3 St.cs w (some ⟨b, 0, none⟩) l := by
  intro k x hx
  obtain ⟨c0, c1, c2, -, -, hb⟩ := h.cells hx
  refine ⟨b, 0, rfl, hb, fun j u hu => ?_⟩
  unfold St.cs at hu
  rw [Nat.zero_add]
  match j, hu with
  | 0, hu => simp at hu; subst hu; exact c0
  | 1, hu => simp at hu; subst hu; exact c1
  | 2, hu => simp at hu; subst hu; exact c2
  | j + 3, hu => simp at hu
theorem OwnSt.put1 {w : World} {b : Nat} {l : List St} (h : OwnSt w b l) {k : Nat} {x : St} (hx : l[k]? = some x) (u : Int) :
    OwnSt (w.setCell ⟨b, k * 3 + 1, none⟩ (.int .i64 u)) b (l.set k ⟨x.at_, u, x.out⟩) := by
  obtain ⟨cur, h1, h2⟩ := h
  refine ⟨_, bk_here h1 _ rfl, fun j y hy => ?_⟩
  obtain ⟨q0, q1, q2⟩ := h2 k x hx
  have hlt : k * 3 + 2 < cur.size := (Array.getElem?_eq_some_iff.1 q2).1
  by_cases hjk : j = k
  · subst hjk
    have hl : j < l.length := (List.getElem?_eq_some_iff.1 hx).1
    rw [List.getElem?_set_self hl] at hy
    simp only [Option.some.injEq] at hy
    subst hy
    refine ⟨?_, ?_, ?_⟩
    all_goals first
      | (rw [Array.getElem?_setIfInBounds_ne (by omega)]; assumption)
      | rw [Array.getElem?_setIfInBounds_self_of_lt (by omega)]
  · rw [List.getElem?_set_ne (fun e => hjk e.symm)] at hy
    obtain ⟨r0, r1, r2⟩ := h2 j y hy
    refine ⟨?_, ?_, ?_⟩
    all_goals
      rw [Array.getElem?_setIfInBounds_ne (by omega)]
      assumption
theorem OwnSt.put2 {w : World} {b : Nat} {l : List St} (h : OwnSt w b l) {k : Nat} {x : St} (hx : l[k]? = some x) (u : Int) :
    OwnSt (w.setCell ⟨b, k * 3 + 2, none⟩ (.int .i64 u)) b (l.set k ⟨x.at_, x.inn, u⟩) := by
  obtain ⟨cur, h1, h2⟩ := h
  refine ⟨_, bk_here h1 _ rfl, fun j y hy => ?_⟩
  obtain ⟨q0, q1, q2⟩ := h2 k x hx
  have hlt : k * 3 + 2 < cur.size := (Array.getElem?_eq_some_iff.1 q2).1
  by_cases hjk : j = k
  · subst hjk
    have hl : j < l.length := (List.getElem?_eq_some_iff.1 hx).1
    rw [List.getElem?_set_self hl] at hy
    simp only [Option.some.injEq] at hy
    subst hy
    refine ⟨?_, ?_, ?_⟩
    all_goals first
      | (rw [Array.getElem?_setIfInBounds_ne (by omega)]; assumption)
      | rw [Array.getElem?_setIfInBounds_self_of_lt (by omega)]
  · rw [List.getElem?_set_ne (fun e => hjk e.symm)] at hy
    obtain ⟨r0, r1, r2⟩ := h2 j y hy
    refine ⟨?_, ?_, ?_⟩
    all_goals
      rw [Array.getElem?_setIfInBounds_ne (by omega)]
      assumption
set_option maxRecDepth 100000 in
theorem copyCask_own (s : ByteArray) (bung : Int) (A : Option Addr) (ss : List St) (c : Nat) (w : World) (hn : ss.length ≤ 1000) (h0 : 0 < ss.length) (hat : At 3 St.cs w A ss) :
    Calls Try.prog 22 #[.agg #[.string s, .int .i64 bung, .slice A ss.length c]] w fun e w' =>
      (∃ b c', e = .returned (.agg #[.string s, .int .i64 bung, .slice (some ⟨b, 0, none⟩) ss.length c']) ∧ OwnSt w' b ss ∧ ss.length ≤ c' ∧ w.heap.size + 1 < b) ∧ Below w.heap.size w w' := by
  cases A with
  | none =>
    obtain ⟨b, o, h, -⟩ := hat 0 _ (List.getElem?_eq_getElem h0)
    cases h
  | some a =>
    have hnews := fun (W : World) (hb : Below w.heap.size w W) => at_news (sz := 3) (cs := St.cs) (w := W) (a := a) (l := ss) (fun _ => rfl) (At.below hat hb)
    have hlen := flat_len St.cs 3 (fun _ => rfl) ss
    have hone : ∀ u ∈ ss.flatMap St.cs, u.oneCell' = true := by
      intro u hu
      obtain ⟨x, _, hx⟩ := List.mem_flatMap.1 hu
      unfold St.cs at hx
      simp at hx
      rcases hx with rfl | rfl | rfl <;> rfl
    obtain ⟨i0, hi, hz0, hz1, hz2⟩ : ∃ i0, Try.prog.info? 44 = some i0 ∧ i0.zero = some (.agg #[.int .i64 0, .int .i64 0, .int .i64 0]) ∧ i0.size = 3 ∧ i0.bytes = 24 := by
      have h := info44
      cases hh : Try.prog.info? 44 with
      | none => rw [hh] at h; cases h
      | some i => rw [hh] at h; simp only [Option.map_some, Option.some.injEq, Prod.mk.injEq] at h; exact ⟨i, rfl, h.1, h.2.1, h.2.2⟩
    have hN := Lib.hid hnews
    have hO := Lib.hid hone
    have hi' := Lib.hid hi
    clear hnews hone hat hi
    go_enter Try.func22, Try.ntmps22
    obtain ⟨w0, hw0⟩ : ∃ w0, ((w.alloc (.cells #[.string s, .int .i64 bung, .slice (some a) ss.length c] 34)).alloc (.cells #[.string { data := #[] }, .int .i64 0, .slice none 0 0] 34)).alloc (.cells #[] 44) = w0 := ⟨_, rfl⟩
    have hown0 : w0.ownsRow (w.heap.size + 1 + 1) 44 3 (.slice (some ⟨w.heap.size + 1 + 1, 0, none⟩) 0 0) 0 [] := by
      rw [← hw0]
      refine ⟨rfl, .inr ⟨w.heap.size + 1 + 1, 0, #[], rfl, Nat.le_refl _, ?_, Nat.le_refl _, Nat.zero_le _, rfl, rfl⟩⟩
      exact heap_new _ _ _ (by simp)
    have hb0 : Below w.heap.size w w0 := by rw [← hw0]; go_grown
    have hs0 : w0.heap.size = w.heap.size + 1 + 1 + 1 := by rw [← hw0]; simp
    rw [← hw0] at hown0 hb0 hs0
    clear hw0
    have hown := Lib.hid hown0
    have hbb := Lib.hid hb0
    have hss := Lib.hid hs0
    clear hown0 hb0 hs0
    go_wp2_with (at_builtin; refine wpList_append_own _ rfl _ _ 32 rfl (w.heap.size + 1 + 1) 44 i0 (.agg #[.int .i64 0, .int .i64 0, .int .i64 0]) 3 24 Try.underlying32 hi'.out hz0 hz1 hz2 rfl (by decide) _ _ _ rfl hown.out a ss.length c (ss.flatMap St.cs) rfl hlen (hN.out _ hbb.out) hO.out ?c1 ?c2 ?c3 ?_)
    case c1 => unfold maxLen; omega
    case c2 => omega
    case c3 => simp
    intro v' w3 hown3 hg3 hne
    obtain ⟨g, c', rfl, hat3, hcap, hbase⟩ : ∃ g c', v' = .slice (some ⟨g, 0, none⟩) ss.length c' ∧ OwnSt w3 g ss ∧ ss.length ≤ c' ∧ w.heap.size + 1 + 1 ≤ g := by
      rcases hown3.2 with ⟨e2, h0⟩ | ⟨g, cap, cur, e2, h1, h2, h3, -, h4, h5⟩
      · exact (hne e2).elim
      · refine ⟨g, cap, e2, ⟨cur, h2, fun k x hx => ?_⟩, h3, h1⟩
        have hkl : k < ss.length := (List.getElem?_eq_some_iff.1 hx).1
        have hg : ∀ j u, j < 3 → (St.cs x)[j]? = some u → cur[k * 3 + j]? = some u := fun j u hj hu => by
          have hf := flat_get St.cs 3 (fun _ => rfl) ss k j x u hx hu
          rw [← h5, List.getElem?_take_of_lt (by omega)] at hf
          simpa using hf
        exact ⟨hg 0 _ (by omega) rfl, hg 1 _ (by omega) rfl, hg 2 _ (by omega) rfl⟩
    have hrow : ∀ r, (Value.slice (some ⟨w.heap.size + 1 + 1, 0, none⟩) 0 0).ownBlock = some r → w.heap.size + 1 < r := fun r e => by cases e; simp
    have f0 : w3.cell? ⟨w.heap.size, 0, none⟩ = some (.string s) := cell_grown hg3 (fun r e => by have := hrow r e; omega) (by simp [go_sem])
    have f1 : w3.cell? ⟨w.heap.size, 1, none⟩ = some (.int .i64 bung) := cell_grown hg3 (fun r e => by have := hrow r e; omega) (by simp [go_sem])
    have f2 : w3.cell? ⟨w.heap.size, 2, none⟩ = some (.slice (some a) ss.length c) := cell_grown hg3 (fun r e => by have := hrow r e; omega) (by simp [go_sem])
    have z2 : w3.frozen? ⟨w.heap.size, 2, none⟩ = false := frozen_grown hg3 (fun r e => by have := hrow r e; omega) (v := .slice (some a) ss.length c) (by simp [go_sem]) (by simp [go_sem])
    have g0 : w3.cell? ⟨w.heap.size + 1, 0, none⟩ = some (.string { data := #[] }) := cell_grown hg3 hrow (by simp [go_sem])
    have g1 : w3.cell? ⟨w.heap.size + 1, 1, none⟩ = some (.int .i64 0) := cell_grown hg3 hrow (by simp [go_sem])
    have g2 : w3.cell? ⟨w.heap.size + 1, 2, none⟩ = some (.slice none 0 0) := cell_grown hg3 hrow (by simp [go_sem])
    have y0 : w3.frozen? ⟨w.heap.size + 1, 0, none⟩ = false := frozen_grown hg3 hrow (v := .string { data := #[] }) (by simp [go_sem]) (by simp [go_sem])
    have y1 : w3.frozen? ⟨w.heap.size + 1, 1, none⟩ = false := frozen_grown hg3 hrow (v := .int .i64 0) (by simp [go_sem]) (by simp [go_sem])
    have y2 : w3.frozen? ⟨w.heap.size + 1, 2, none⟩ = false := frozen_grown hg3 hrow (v := .slice none 0 0) (by simp [go_sem]) (by simp [go_sem])
    have hb3 := below_grown hbb.out hg3 (fun r e => by have := hrow r e; omega)
    have hs3 := hg3.size
    have hs4 : w.heap.size + 1 < w3.heap.size := by have := hss.out; omega
    have hs5 : w.heap.size < w3.heap.size := by omega
    have hat4 := Lib.hid hat3
    have hbase' := Lib.hid hbase
    clear hrow hg3 hown3 hne hN hO hi' hat3 hbase hown hbb hss hs3
    go_wp2
    refine bodyPost_ret (v := .agg #[.string s, .int .i64 bung, .slice (some ⟨g, 0, none⟩) ss.length c']) ?_ rfl ⟨⟨g, c', rfl, ?_, hcap, by have := hbase'.out; omega⟩, by go_grown⟩
    · simp [results, Try.results22, go_sem, g0, g1, g2, y0, y1, y2]
    · repeat' refine OwnSt.other ?_ (by have := hbase'.out; dsimp only; omega) _
      exact hat4.out


/-! Wider curves: the plain law. -/
def widS (bung a b : Int) (x : St) : St := ⟨x.at_, max 10 (x.inn - a), min bung (x.out + b)⟩
def widL (f : St → St) (ss : List St) (k : Nat) : List St := (ss.take k).map f ++ ss.drop k
theorem widL_zero (f : St → St) (ss : List St) : widL f ss 0 = ss := by simp [widL]
theorem widL_all (f : St → St) (ss : List St) : widL f ss ss.length = ss.map f := by simp [widL]
theorem widL_len (f : St → St) (ss : List St) (k : Nat) : (widL f ss k).length = ss.length := by simp [widL]; omega
theorem widL_here {f : St → St} {ss : List St} {k : Nat} {x : St} (h : ss[k]? = some x) : (widL f ss k)[k]? = some x := by
  have hk := (List.getElem?_eq_some_iff.1 h).1
  unfold widL
  rw [List.getElem?_append_right (by simp; omega)]
  simp [h, Nat.min_eq_left (Nat.le_of_lt hk)]
theorem widL_set {f : St → St} {ss : List St} {k : Nat} {x : St} (h : ss[k]? = some x) : (widL f ss k).set k (f x) = widL f ss (k + 1) := by
  obtain ⟨hk, hx⟩ := List.getElem?_eq_some_iff.1 h
  unfold widL
  rw [List.drop_eq_getElem_cons hk, hx, List.set_append, if_neg (by simp; omega)]
  simp only [List.length_map, List.length_take, Nat.min_eq_left (Nat.le_of_lt hk), Nat.sub_self, List.set_cons_zero]
  rw [List.take_succ_eq_append_getElem hk, hx]
  simp
theorem stE_wid {bung a b : Int} {p : Option Int} {x : St} (hbg : 10 ≤ bung) (ha : 0 ≤ a) (hb : 0 ≤ b) (h : stE bung p x = 0) : stE bung p (widS bung a b x) = 0 := by
  obtain ⟨x1, x2, x3⟩ := x
  unfold stE widS at *
  dsimp only at *
  obtain ⟨e1, e2⟩ := firstE2_zero h
  have u1 := unl_zero (by decide) e1
  have u2 := unl_zero (by decide) e2
  simp only [Bool.and_eq_true, decide_eq_true_eq] at u1 u2
  obtain ⟨⟨i1, i2⟩, i3⟩ := u1
  obtain ⟨j1, j2⟩ := u2
  have a2 := within_true i2
  have a3 := within_true i3
  have k2 : within (max 10 (x2 - a)) 10 bung = true := by unfold within; simp; omega
  have k3 : within (min bung (x3 + b)) 10 bung = true := by unfold within; simp; omega
  have k4 : decide (max 10 (x2 - a) ≤ min bung (x3 + b)) = true := by simp; omega
  rw [i1, k2, k3, k4, j2]
  rfl
theorem stations_wid {bung a b : Int} (hbg : 10 ≤ bung) (ha : 0 ≤ a) (hb : 0 ≤ b) : ∀ (l : List St) (p : Option Int) (k : Nat), (stationsE bung l p k).2 = 0 → (stationsE bung (l.map (widS bung a b)) p k).2 = 0
  | [], _, _, h => h
  | x :: l, p, k, h => by
    rw [List.map_cons]
    unfold stationsE at h ⊢
    by_cases hz : stE bung p x = 0
    · rw [if_pos hz] at h
      rw [if_pos (stE_wid hbg ha hb hz)]
      exact stations_wid hbg ha hb l _ _ h
    · rw [if_neg hz] at h
      exact (hz h).elim
theorem checkC_wid {name : List UInt8} {bung a b : Int} {ss : List St} (ha : 0 ≤ a) (hb : 0 ≤ b) (h : (checkC name bung ss).2 = 0) : (checkC name bung (ss.map (widS bung a b))).2 = 0 := by
  have hR := rightC_of h
  unfold checkC at *
  rw [List.length_map]
  by_cases hz : caskHeadE name bung ss.length = 0
  · rw [if_pos hz] at h ⊢
    exact stations_wid hR.b.1 ha hb _ _ _ h
  · rw [if_neg hz] at h
    exact (hz h).elim
theorem wider_wid {bung a b dip : Int} {name : List UInt8} {ss : List St} (ha : 0 ≤ a) (hb : 0 ≤ b) (h : (checkC name bung ss).2 = 0) :
    (toV bung dip (ss.map (widS bung a b))).1 ≤ (toV bung dip ss).1 ∧ (toV bung dip ss).2 ≤ (toV bung dip (ss.map (widS bung a b))).2 := by
  refine toV_wider (rightC_of h) (rightC_of (checkC_wid ha hb h)) (fun k p q hp hq => ?_) (by simp)
  have hp' := (rightC_of h).s p (List.mem_of_getElem? hp)
  rw [List.getElem?_map, hp] at hq
  simp only [Option.map_some, Option.some.injEq] at hq
  subst hq
  exact ⟨rfl, by unfold widS; dsimp only; omega, by unfold widS; dsimp only; omega⟩
end Go.Proofs
