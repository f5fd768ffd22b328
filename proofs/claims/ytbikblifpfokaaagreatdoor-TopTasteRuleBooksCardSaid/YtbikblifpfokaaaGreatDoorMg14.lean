import Derived.Test.YtbikblifpfokaaaGreatDoorMg13
import Derived.Maps.AppendAt
import Derived.Test.YtbikblifpfokaaaGreatDoorMg12
import Derived.Test.YtbikblifpfokaaaGreatDoorMg10
set_option linter.unusedSimpArgs false
set_option linter.unusedVariables false
namespace Go.Proofs
open Go.RowKit

/-! A queue: a list that the call owns, cut from its front. -/
def OwnQ (w : World) (base : Nat) (e : TypeId) (sz : Nat) (v : Value) (n : Nat) (xs : List Value) : Prop :=
  ∃ g off cap cs, v = .slice (some ⟨g, off, none⟩) n cap ∧ base ≤ g ∧ w.heap[g]? = some (.cells cs e (0, 0)) ∧ n ≤ cap ∧ cap ≤ maxLen ∧ off + cap * sz ≤ cs.size ∧ xs.length = n * sz ∧ (cs.toList.drop off).take (n * sz) = xs
theorem OwnQ.kept {w w' : World} {base : Nat} {e : TypeId} {sz : Nat} {v : Value} {n : Nat} {xs : List Value} (h : OwnQ w base e sz v n xs) (hb : ∀ g, v.ownBlock = some g → w'.heap[g]? = w.heap[g]?) : OwnQ w' base e sz v n xs := by
  obtain ⟨g, off, cap, cs, rfl, h2, h3, h4⟩ := h
  exact ⟨g, off, cap, cs, rfl, h2, (hb g rfl).trans h3, h4⟩
theorem OwnQ.block {w : World} {base : Nat} {e : TypeId} {sz : Nat} {v : Value} {n : Nat} {xs : List Value} (h : OwnQ w base e sz v n xs) : ∃ g, v.ownBlock = some g ∧ base ≤ g ∧ g < w.heap.size := by
  obtain ⟨g, off, cap, cs, rfl, h2, h3, -⟩ := h
  exact ⟨g, rfl, h2, (Array.getElem?_eq_some_iff.1 h3).1⟩
theorem OwnQ.below {w w' : World} {base : Nat} {e : TypeId} {sz : Nat} {v : Value} {n : Nat} {xs : List Value} (h : OwnQ w base e sz v n xs) (hb : Below w.heap.size w w') : OwnQ w' base e sz v n xs := by
  obtain ⟨g, hg, -, hlt⟩ := h.block
  refine h.kept fun k hk => ?_
  rw [hg] at hk
  cases hk
  exact hb.block g hlt
theorem OwnQ.cell {w : World} {base : Nat} {e : TypeId} {sz : Nat} {n c g off : Nat} {xs : List Value} (h : OwnQ w base e sz (.slice (some ⟨g, off, none⟩) n c) n xs) (j : Nat) (u : Value) (hj : xs[j]? = some u) : w.cell? ⟨g, off + j, none⟩ = some u := by
  obtain ⟨g', off', cap, cs, hv, h2, h3, h4, h5, h6, h7, h8⟩ := h
  cases hv
  rw [cell_of_row w g (off + j) cs e _ h3, ← Array.getElem?_toList, ← List.getElem?_drop]
  rw [← h8] at hj
  rwa [List.getElem?_take_of_lt (by
    have := (List.getElem?_eq_some_iff.1 hj).1
    rw [h8] at this
    omega)] at hj
/-- One row alone, made now. -/
theorem OwnQ.made (w : World) (e : TypeId) (sz : Nat) (xs : List Value) (h : xs.length = 1 * sz) : OwnQ (w.alloc (.cells xs.toArray e (0, 0))) w.heap.size e sz (.slice (some ⟨w.heap.size, 0, none⟩) 1 1) 1 xs :=
  ⟨w.heap.size, 0, 1, xs.toArray, rfl, Nat.le_refl _, World.alloc_heap_new w _, Nat.le_refl _, by decide, by simp [h], h, by rw [List.drop_zero, List.take_of_length_le (by simp [h])]⟩
/-- Cut from its front. -/
theorem OwnQ.cut {P : Program} {w : World} {base : Nat} {t e : TypeId} {sz : Nat} {i : TypeInfo} (ht : P.underlying t = some (.slice e)) (hi : P.info? e = some i) (hs : i.size = sz) {v : Value} {n : Nat} {ys xs : List Value} (hy : ys.length = sz) (h : OwnQ w base e sz v (n + 1) (ys ++ xs)) (hn : n ≤ 1000) :
    ∃ v', (Instr.slice t v (some (.int .i64 1)) none none).run P w = .ok v' w ∧ OwnQ w base e sz v' n xs ∧ v'.ownBlock = v.ownBlock := by
  obtain ⟨g, off, cap, cs, rfl, h2, h3, h4, h5, h6, h7, h8⟩ := h
  have hlx : xs.length = n * sz := by
    rw [List.length_append, hy, Nat.add_mul] at h7
    omega
  have hx : ∀ off', off' = off + sz → (cs.toList.drop off').take (n * sz) = xs := by
    rintro _ rfl
    rw [← List.drop_drop]
    have : ((cs.toList.drop off).take ((n + 1) * sz)).drop sz = xs := by
      rw [h8, List.drop_append_of_le_length (by omega), List.drop_of_length_le (by omega), List.nil_append]
    rw [← this, List.drop_take]
    congr 1
    rw [Nat.add_mul]
    omega
  have hr : (Instr.slice t (.slice (some ⟨g, off, none⟩) (n + 1) cap) (some (.int .i64 1)) none none).run P w = .ok (.slice (if cap = 1 then some ⟨g, off, none⟩ else some ⟨g, off + sz, none⟩) n (cap - 1)) w := by
    unfold Instr.slice
    have h1 : (1 : Int) ≤ ((n + 1 : Nat) : Int) := by omega
    simp [run_underlying ht, Instr.sliceBounds, Instr.sliceBound, asIntOf, sizeOf, typeInfo, hi, hs, Sem.run_bind, h1, Addr.add_lit]
    omega
  by_cases hc : cap = 1
  · refine ⟨_, hr, ?_, by rw [if_pos hc]; rfl⟩
    rw [if_pos hc]
    have hn0 : n = 0 := by omega
    subst hn0
    refine ⟨g, off, cap - 1, cs, rfl, h2, h3, by omega, by omega, by rw [hc]; have := h6; omega, hlx, ?_⟩
    have : xs = [] := List.eq_nil_of_length_eq_zero (by simpa using hlx)
    rw [this]
    simp
  · refine ⟨_, hr, ?_, by rw [if_neg hc]; rfl⟩
    rw [if_neg hc]
    refine ⟨g, off + sz, cap - 1, cs, rfl, h2, h3, by omega, by omega, ?_, hlx, hx _ rfl⟩
    have : cap * sz = (cap - 1) * sz + sz := by
      conv => lhs; rw [show cap = cap - 1 + 1 by omega]
      rw [Nat.add_mul, Nat.one_mul]
    omega
theorem run_append_off {P : Program} {w : World} (t ty e : TypeId) (i : TypeInfo) (ht : P.underlying t = some (.slice e)) (hi : P.info? e = some i)
    (g off sLen sCap : Nat) (cur : Array Value) (hg : w.heap[g]? = some (.cells cur e (0, 0)))
    (a : Addr) (m c : Nat) (news : List Value) (hl : news.length = m * i.size) (hnews : ∀ j u, news[j]? = some u → w.cell? (a.add j) = some u) (h1 : ∀ u ∈ news, u.oneCell' = true)
    (hroom : sLen + m ≤ sCap) (hfit : off + sLen * i.size + news.length ≤ cur.size) :
    (Builtin.append_ #[t, t] ty #[.slice (some ⟨g, off, none⟩) sLen sCap, .slice (some a) m c]).run P w =
      .ok (.slice (some ⟨g, off, none⟩) (sLen + m) sCap) (w.setRow g (cur.toList.take (off + sLen * i.size) ++ news ++ cur.toList.drop (off + sLen * i.size + news.length)).toArray) := by
  have hf := run_firstCells_some (P := P) w i.size m a m c news hl hnews
  have hst := run_storeCells_at P g (off + sLen * i.size) e news 0 cur w hg (by simpa using hfit) h1
  simp only [Nat.add_zero] at hst
  simp [Builtin.append_, run_underlying ht, sizeOf, typeInfo, hi, Builtin.lenOf, hroom, hf, Addr.add_lit, hst]
theorem OwnQ.append {P : Program} {w : World} {base : Nat} (t ty : TypeId) {e : TypeId} {sz bytes : Nat} {i : TypeInfo} {z : Value} (ht : P.underlying t = some (.slice e)) (hi : P.info? e = some i) (hz : i.zero = some z)
    (hsize : i.size = sz) (hby : i.bytes = bytes) (hzs : z.cells.size = sz) {v : Value} {n : Nat} {xs : List Value} (h : OwnQ w base e sz v n xs)
    (a : Addr) (m c : Nat) (news : List Value) (hl : news.length = m * sz) (hnews : ∀ j u, news[j]? = some u → w.cell? (a.add j) = some u) (h1 : ∀ u ∈ news, u.oneCell' = true)
    (h63 : n + m ≤ maxLen) (hbytes : (n + m) * bytes ≤ 140737488355328) (hbase : base ≤ w.heap.size) :
    ∃ v' w', (Builtin.append_ #[t, t] ty #[v, .slice (some a) m c]).run P w = .ok v' w' ∧ OwnQ w' base e sz v' (n + m) (xs ++ news) ∧ w.grownBy w' v.ownBlock ∧ (v'.ownBlock = v.ownBlock ∨ v'.ownBlock = some w.heap.size) := by
  subst hsize
  subst hby
  obtain ⟨g, off, cap, cs, rfl, hbg, hg, hnc, hcm, hcs, hlx, htake⟩ := h
  have hsmall : n + m ≤ 9223372036854775807 := by simp only [maxLen] at h63; omega
  have hlen : (xs ++ news).length = (n + m) * i.size := by rw [List.length_append, hlx, hl, Nat.add_mul]
  by_cases hroom : n + m ≤ cap
  · have hmul : (n + m) * i.size ≤ cap * i.size := Nat.mul_le_mul_right _ hroom
    have hfit : off + n * i.size + news.length ≤ cs.size := by rw [hl]; rw [Nat.add_mul] at hmul; omega
    have hr := run_append_off (P := P) (w := w) t ty e i ht hi g off n cap cs hg a m c news hl hnews h1 hroom hfit
    refine ⟨_, _, hr, ⟨g, off, cap, _, rfl, hbg, setRow_heap w g cs _ e _ hg, hroom, hcm, ?_, hlen, ?_⟩, ⟨rfl, rfl, rfl, by simp, fun k _ hk => setRow_other w g k _ (fun e => hk (by simp [Value.ownBlock, e]))⟩, .inl rfl⟩
    · simp only [List.size_toArray, List.length_append, List.length_take, List.length_drop, Array.length_toList]
      omega
    · have hto : (cs.toList.take (off + n * i.size)).length = off + n * i.size := by simp; omega
      have hd : (cs.toList.take (off + n * i.size)).drop off = xs := by
        rw [List.drop_take, ← htake]
        congr 1
        omega
      rw [List.append_assoc, List.drop_append_of_le_length (by omega), hd, ← hlen, ← List.append_assoc, List.take_left]
  · have hr := run_append_grow (P := P) (w := w) t ty e i z ht hi hz ⟨g, off, none⟩ n cap xs hlx (fun j u hj => by
      rw [Addr.add_lit]
      exact OwnQ.cell (base := base) (e := e) (sz := i.size) (n := n) (c := cap) ⟨g, off, cap, cs, rfl, hbg, hg, hnc, hcm, hcs, hlx, htake⟩ j u hj) a m c news hl hnews (by omega) (by omega) (growslice_fits (by omega) hbytes)
    have hge := grownCap_ge w (n + m) cap e
    have hcm' : grownCap w (n + m) cap e ≤ maxLen := grownCap_le_maxLen w (n + m) cap e h63
    refine ⟨_, _, hr, ⟨w.heap.size, 0, _, _, rfl, hbase, heap_alloc_new w.drew _, hge, hcm', ?_, hlen, ?_⟩, ⟨rfl, rfl, rfl, by simp, fun k hk _ => (by first | exact heap_alloc_old w.drew _ k hk | exact heap_alloc_old w.drew _ hk)⟩, .inr rfl⟩
    · simp only [Array.size_append, List.size_toArray, size_zeroCells, hzs, hlx, hl, ← Nat.add_mul, Nat.zero_add]
      apply Nat.le_of_eq
      congr 1
      omega
    · simp only [Array.toList_append, List.append_assoc, List.drop_zero]
      rw [← List.append_assoc, ← hlen]
      exact List.take_left
end Go.Proofs

set_option linter.unusedSimpArgs false
set_option linter.unusedVariables false
set_option linter.unusedSectionVars false
namespace Go.Proofs
open Go.RowKit

/-! A search by breadth in memory: what holds between two rounds. -/
section
variable {S : Type} [DecidableEq S]
structure Fd (S : Type) where
  st : S
  wd : List Nat
  A : Option Addr
  c : Nat
def Fd.key (x : Fd S) : S × List Nat := (x.st, x.wd)
def gvF (x : Fd S) (r : Nat) : Prop := ∃ a, x.A = some a ∧ a.block = r
def qcs (cs : S → List Value) (x : Fd S) : List Value := cs x.st ++ [.slice x.A x.wd.length x.c]
theorem At.kept {α : Type} {sz : Nat} {cs : α → List Value} {w w' : World} {A : Option Addr} {l : List α} (h : At sz cs w A l) (hb : ∀ a, A = some a → w'.heap[a.block]? = w.heap[a.block]?) : At sz cs w' A l := by
  intro k x hx
  obtain ⟨b, o, hA, hlt, hc⟩ := h k x hx
  have he := hb _ hA
  refine ⟨b, o, hA, ?_, fun j v hv => ?_⟩
  · rw [Array.getElem?_eq_getElem hlt] at he
    exact (Array.getElem?_eq_some_iff.1 he).1
  · rw [← hc j v hv]
    exact World.cell?_of_block (a := ⟨b, _, none⟩) he
structure SR (base : Nat) (M : Nat → Prop) (w : World) (J : List (Fd S) → (Nat → Prop) → World → Prop) (mb : Nat) (D q : List (Fd S)) (T : Nat → Prop) (vb : Nat) (wr : World) : Prop where
  qat : ∀ y ∈ D ++ q, At 1 Nc wr y.A y.wd
  qgv : ∀ y ∈ D ++ q, ∀ r, gvF y r → base ≤ r ∧ r < wr.heap.size ∧ r ≠ mb ∧ r ≠ vb ∧ ¬ T r
  jj : J D T wr
  tt : ∀ r, T r → base ≤ r ∧ r < wr.heap.size ∧ r ≠ mb ∧ r ≠ vb
  lie : Lie M w wr
  bs : w.heap.size ≤ base ∧ base ≤ wr.heap.size
  mbb : base ≤ mb ∧ mb < wr.heap.size
  vbb : base ≤ vb ∧ vb < wr.heap.size
  ne : vb ≠ mb
  wl : ∀ y ∈ D ++ q, y.wd.length ≤ D.length
theorem grown_of {w w' : World} (h : Below w.heap.size w w') : w.grownBy w' none := ⟨h.os, h.tape, h.output, h.size, fun k hk _ => h.block k hk⟩
variable {base mb vb : Nat} {M T : Nat → Prop} {w wr wr' : World} {J : List (Fd S) → (Nat → Prop) → World → Prop} {D q : List (Fd S)}
theorem SR.row (hJ : AbideT gvF base J) (h : SR base M w J mb D q T vb wr) {r0 : Option Nat} (hg : wr.grownBy wr' r0) (hr : ∀ r, r0 = some r → r = mb ∨ r = vb) : SR base M w J mb D q T vb wr' := by
  have hsz := hg.size
  have hrow : ∀ r, r0 = some r → base ≤ r ∧ ¬ T r ∧ ∀ x ∈ D ++ q, ¬ gvF x r := fun r e => by
    rcases hr r e with rfl | rfl
    · exact ⟨h.mbb.1, fun ht => (h.tt _ ht).2.2.1 rfl, fun x hx hv => (h.qgv x hx _ hv).2.2.1 rfl⟩
    · exact ⟨h.vbb.1, fun ht => (h.tt _ ht).2.2.2 rfl, fun x hx hv => (h.qgv x hx _ hv).2.2.2.1 rfl⟩
  refine ⟨fun y hy => (h.qat y hy).kept fun a ha => ?_, fun y hy r hv => ?_, hJ _ _ _ _ _ h.jj hg fun r e => ⟨(hrow r e).1, (hrow r e).2.1, fun x hx => (hrow r e).2.2 x (List.mem_append_left _ hx)⟩, fun r ht => ?_, ?_, ⟨h.bs.1, Nat.le_trans h.bs.2 hsz⟩, ⟨h.mbb.1, by have := h.mbb.2; omega⟩, ⟨h.vbb.1, by have := h.vbb.2; omega⟩, h.ne, h.wl⟩
  · have := h.qgv y hy a.block ⟨a, ha, rfl⟩
    exact hg.block _ this.2.1 fun e => (hrow _ e.symm).2.2 y hy ⟨a, ha, rfl⟩
  · have := h.qgv y hy r hv
    exact ⟨this.1, by omega, this.2.2⟩
  · have := h.tt r ht
    exact ⟨this.1, by omega, this.2.2⟩
  · refine ⟨Nat.le_trans h.lie.size hsz, fun k hk hm => ?_⟩
    rw [hg.block k (Nat.lt_of_lt_of_le hk h.lie.size) fun e => by have := (hrow _ e.symm).1; have := h.bs.1; omega]
    exact h.lie.same k hk hm
theorem SR.grow (hJ : AbideT gvF base J) (h : SR base M w J mb D q T vb wr) (hb : Below wr.heap.size wr wr') : SR base M w J mb D q T vb wr' :=
  h.row hJ (grown_of hb) fun r e => by cases e
theorem SR.take {x : Fd S} {T' : Nat → Prop} {l : Nat} {w2 : World} (h : SR base M w J mb D (x :: q) T vb wr) (hl : l < base) (hlw : w.heap.size ≤ l) (hMb : ∀ k, M k → k < base) (hli : Lie (fun k => M k ∨ T k ∨ k = l) wr w2)
    (hT1 : ∀ r, T' r → T r ∨ wr.heap.size ≤ r) (hT2 : ∀ r, T' r → r < w2.heap.size) (hJ : J (D ++ [x]) T' w2) : SR base M w J mb (D ++ [x]) q T' vb w2 := by
  have e : (D ++ [x]) ++ q = D ++ x :: q := by simp
  have hn : ∀ r, base ≤ r → ¬ T r → ¬ (M r ∨ T r ∨ r = l) := fun r hr ht => by
    rintro (h1 | h1 | h1)
    · have := hMb _ h1; omega
    · exact ht h1
    · omega
  refine ⟨fun y hy => ?_, fun y hy r hv => ?_, hJ, fun r ht => ?_, ?_, ⟨h.bs.1, Nat.le_trans h.bs.2 hli.size⟩, ⟨h.mbb.1, Nat.lt_of_lt_of_le h.mbb.2 hli.size⟩, ⟨h.vbb.1, Nat.lt_of_lt_of_le h.vbb.2 hli.size⟩, h.ne, fun y hy => by rw [e] at hy; have := h.wl y hy; rw [List.length_append]; omega⟩
  · rw [e] at hy
    refine (h.qat y hy).kept fun a ha => ?_
    have := h.qgv y hy a.block ⟨a, ha, rfl⟩
    exact hli.same _ this.2.1 (hn _ this.1 this.2.2.2.2)
  · rw [e] at hy
    have := h.qgv y hy r hv
    refine ⟨this.1, Nat.lt_of_lt_of_le this.2.1 hli.size, this.2.2.1, this.2.2.2.1, fun ht => ?_⟩
    rcases hT1 r ht with h1 | h1
    · exact this.2.2.2.2 h1
    · omega
  · rcases hT1 r ht with h1 | h1
    · have := h.tt r h1
      exact ⟨this.1, hT2 r ht, this.2.2⟩
    · have h3 := h.bs.2
      have h4 := h.mbb.2
      have h5 := h.vbb.2
      exact ⟨by omega, hT2 r ht, by omega, by omega⟩
  · refine ⟨Nat.le_trans h.lie.size hli.size, fun k hk hm => ?_⟩
    rw [hli.same k (Nat.lt_of_lt_of_le hk h.lie.size) ?_]
    · exact h.lie.same k hk hm
    · rintro (h1 | h1 | h1)
      · exact hm h1
      · have := (h.tt k h1).1
        have := h.bs.1
        omega
      · omega
theorem SR.push (hJ : AbideT gvF base J) (h : SR base M w J mb D q T vb wr) {w3 w4 : World} {y : Fd S} {vb' : Nat} (hb : Below wr.heap.size wr w3) (hy : At 1 Nc w3 y.A y.wd) (hyb : ∀ r, gvF y r → wr.heap.size ≤ r ∧ r < w3.heap.size)
    (hg : w3.grownBy w4 (some vb)) (hv : vb' = vb ∨ vb' = w3.heap.size) (hlt : vb' < w4.heap.size) (hyl : y.wd.length ≤ D.length) : SR base M w J mb D (q ++ [y]) T vb' w4 := by
  have h3 := h.grow hJ hb
  have h4 := h3.row hJ hg fun r e => by cases e; exact .inr rfl
  have e : D ++ (q ++ [y]) = (D ++ q) ++ [y] := by simp
  have hs3 := hb.size
  have hvb' : base ≤ vb' := by
    rcases hv with rfl | rfl
    · exact h.vbb.1
    · exact h3.bs.2
  refine ⟨fun z hz => ?_, fun z hz r hvz => ?_, h4.jj, fun r ht => ?_, h4.lie, h4.bs, h4.mbb, ⟨hvb', hlt⟩, ?_, fun z hz => ?_⟩
  · rw [e] at hz
    rcases List.mem_append.1 hz with hz | hz
    · exact h4.qat z hz
    · rw [List.mem_singleton] at hz
      subst hz
      refine hy.kept fun a ha => ?_
      have := hyb a.block ⟨a, ha, rfl⟩
      exact hg.block _ this.2 fun e => by
        injection e with e
        have := h.vbb.2
        omega
  · rw [e] at hz
    rcases List.mem_append.1 hz with hz | hz
    · have a1 := h4.qgv z hz r hvz
      have a2 := h3.qgv z hz r hvz
      exact ⟨a1.1, a1.2.1, a1.2.2.1, (by rcases hv with e | e; exact e ▸ a1.2.2.2.1; omega), a1.2.2.2.2⟩
    · rw [List.mem_singleton] at hz
      subst hz
      have a1 := hyb r hvz
      have a2 := h.bs.2
      have a3 := h.mbb.2
      have a4 := h.vbb.2
      have a5 := hg.size
      exact ⟨by omega, by omega, by omega, by rcases hv with rfl | rfl <;> omega, fun ht => by have := (h.tt r ht).2.1; omega⟩
  · have a1 := h4.tt r ht
    have a2 := h3.tt r ht
    exact ⟨a1.1, a1.2.1, a1.2.2.1, (by rcases hv with e | e; exact e ▸ a1.2.2.2; omega)⟩
  · have := h3.mbb.2
    rcases hv with rfl | rfl
    · exact h.ne
    · omega
  · rw [e] at hz
    rcases List.mem_append.1 hz with hz | hz
    · exact h.wl z hz
    · rw [List.mem_singleton] at hz
      subst hz
      exact hyl
theorem SR.push2 (hJ : AbideT gvF base J) (h : SR base M w J mb D q T vb wr) {w4 : World} {y : Fd S} {vb' : Nat} (hg : wr.grownBy w4 (some vb)) (hy : At 1 Nc w4 y.A y.wd) (hyb : ∀ r, gvF y r → wr.heap.size ≤ r ∧ r < w4.heap.size ∧ r ≠ vb')
    (hv : vb' = vb ∨ wr.heap.size ≤ vb') (hlt : vb' < w4.heap.size) (hyl : y.wd.length ≤ D.length) : SR base M w J mb D (q ++ [y]) T vb' w4 := by
  have h4 := h.row hJ hg fun r e => by cases e; exact .inr rfl
  have e : D ++ (q ++ [y]) = (D ++ q) ++ [y] := by simp
  have hvb' : base ≤ vb' := by
    have h1 := h.vbb.1
    have h2 := h.bs.2
    rcases hv with h3 | h3 <;> omega
  refine ⟨fun z hz => ?_, fun z hz r hvz => ?_, h4.jj, fun r ht => ?_, h4.lie, h4.bs, h4.mbb, ⟨hvb', hlt⟩, ?_, fun z hz => ?_⟩
  · rw [e] at hz
    rcases List.mem_append.1 hz with hz | hz
    · exact h4.qat z hz
    · rw [List.mem_singleton] at hz
      subst hz
      exact hy
  · rw [e] at hz
    rcases List.mem_append.1 hz with hz | hz
    · have a1 := h4.qgv z hz r hvz
      have a2 := h.qgv z hz r hvz
      exact ⟨a1.1, a1.2.1, a1.2.2.1, (by rcases hv with e | e; exact e ▸ a1.2.2.2.1; omega), a1.2.2.2.2⟩
    · rw [List.mem_singleton] at hz
      subst hz
      have a1 := hyb r hvz
      have a2 := h.bs.2
      have a3 := h.mbb.2
      exact ⟨by omega, a1.2.1, by omega, a1.2.2, fun ht => by have := (h.tt r ht).2.1; omega⟩
  · have a1 := h4.tt r ht
    have a2 := h.tt r ht
    exact ⟨a1.1, a1.2.1, a1.2.2.1, (by rcases hv with e | e; exact e ▸ a1.2.2.2; omega)⟩
  · have := h.mbb.2
    rcases hv with rfl | h3
    · exact h.ne
    · omega
  · rw [e] at hz
    rcases List.mem_append.1 hz with hz | hz
    · exact h.wl z hz
    · rw [List.mem_singleton] at hz
      subst hz
      exact hyl
theorem lkM_set : ∀ (l : List S) (s : S), lkM (l.map fun s => (s, true)) s = if s ∈ l then some true else none
  | [], s => rfl
  | a :: l, s => by
    rw [List.map_cons]
    unfold lkM
    rw [lkM_set l s]
    by_cases h : s = a
    · simp [h]
    · simp [h]
theorem setM_set : ∀ (l : List S) (s : S), s ∉ l → setM (l.map fun s => (s, true)) s true = (l ++ [s]).map fun s => (s, true)
  | [], s, _ => rfl
  | a :: l, s, h => by
    rw [List.map_cons]
    unfold setM
    rw [if_neg (by intro e; exact h (by rw [e]; exact List.mem_cons_self ..)), setM_set l s (fun e => h (List.mem_cons_of_mem _ e))]
    rfl
/-- What holds between two rounds of the outer loop, with 'f' states at most to come. -/
def SI (nx : S → Nat → S) (m : Nat) (b : S) (n0 : Nat) (enc : S → Value) (cs : S → List Value) (te sz base : Nat) (M : Nat → Prop) (w : World) (J : List (Fd S) → (Nat → Prop) → World → Prop) (mb : Nat) (v : Value) (f : Nat) (wr : World) : Prop :=
  ∃ D q seen T vb, BInv nx m b (D.map Fd.key) (q.map Fd.key) seen m ∧ D.length + f = n0 ∧ D.map Fd.key ++ bfs nx m f seen (q.map Fd.key) = bfsB nx m b n0 ∧ v.ownBlock = some vb ∧ OwnQ wr base te sz v q.length (q.flatMap (qcs cs)) ∧ MapAt enc Value.bool wr mb (seen.map fun s => (s, true)) ∧ SR base M w J mb D q T vb wr
/-- What holds within: x has been taken, k marks looked at. -/
def SK (nx : S → Nat → S) (m : Nat) (b : S) (n0 : Nat) (enc : S → Value) (cs : S → List Value) (te sz base : Nat) (M : Nat → Prop) (w : World) (J : List (Fd S) → (Nat → Prop) → World → Prop) (mb : Nat) (D : List (Fd S)) (x : Fd S) (T : Nat → Prop) (f : Nat) (seen0 : List S) (q0 : List (S × List Nat)) (v : Value) (k : Nat) (wr : World) : Prop :=
  ∃ q seen vb, BInv nx m b ((D ++ [x]).map Fd.key) (q.map Fd.key) seen k ∧ push nx x.st x.wd seen0 q0 k = (seen, q.map Fd.key) ∧ v.ownBlock = some vb ∧ OwnQ wr base te sz v q.length (q.flatMap (qcs cs)) ∧ MapAt enc Value.bool wr mb (seen.map fun s => (s, true)) ∧ SR base M w J mb (D ++ [x]) q T vb wr
end
end Go.Proofs
