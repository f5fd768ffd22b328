import Derived.Test.YtbikblifpfokaaaGreatDoorMg14
import Derived.Test.YtbikblifpfokaaaGreatDoorMg15
import Derived.RangeFuncNested
import Derived.RangeFuncBound
import Derived.RangeFuncCalls
import Derived.TacticsInMore
import Derived.LoopIn
import Derived.Maps.OwnIn
import Derived.Deep.LoopGhost
import Derived.Test.YtbikblifpfokaaaGreatDoorMg12
set_option linter.unusedSimpArgs false
set_option linter.unusedVariables false
namespace Go.Proofs
open Go.RowKit
attribute [local go_sem] Oper.semAt_some

theorem cloneInts_any (A : Option Addr) (l : List Nat) (c : Nat) (w : World) (hl : l.length ≤ 1000) (hat : At 1 Nc w A l) :
    Calls Tryz.prog 59 #[.slice A l.length c] w fun e w' => ∃ v', e = .returned v' ∧ w'.ownsRow w.heap.size 3 1 v' l.length (l.flatMap Nc) ∧ Below w.heap.size w w' := by
  cases hA : A with
  | none =>
    have hl0 : l = [] := by
      cases l with
      | nil => rfl
      | cons x l => obtain ⟨b, o, h, -⟩ := hat 0 x rfl; rw [hA] at h; cases h
    subst hl0
    refine (Tryz.slices_Clone_int_nil 0 c w).mono ?_
    rintro e w' ⟨rfl, rfl⟩
    exact ⟨_, rfl, World.ownsRow_nil _ _ _ _, Below.refl _ _⟩
  | some a =>
    by_cases hl0 : l.length = 0
    · have : l = [] := List.eq_nil_of_length_eq_zero hl0
      subst this
      refine (Tryz.slices_Clone_int_zero a c w).mono ?_
      rintro e w' ⟨v', rfl, h1, -, h2⟩
      exact ⟨_, rfl, h1, h2⟩
    · obtain ⟨x, hx⟩ : ∃ x, l[0]? = some x := ⟨_, List.getElem?_eq_getElem (by omega)⟩
      obtain ⟨b, o, ha, -⟩ := hat 0 x hx
      rw [hA] at ha
      cases ha
      refine (Tryz.slices_Clone_int b o l.length c (l.map fun (n : Nat) => (n : Int)) w (by simp) (by omega) ?_).mono ?_
      · intro j hj
        rw [List.length_map] at hj
        obtain ⟨b', o', ha', -, hc⟩ := hat j _ (List.getElem?_eq_getElem hj)
        rw [hA] at ha'
        cases ha'
        have := hc 0 _ rfl
        simp only [Nat.mul_one, Nat.add_zero] at this
        rw [this]
        simp [List.getD, List.getElem?_eq_getElem hj]
      · rintro e w' ⟨v', rfl, h1, -, h2⟩
        refine ⟨_, rfl, ?_, h2⟩
        have : ((l.map fun (n : Nat) => (n : Int)).take l.length).map (Value.int .i64) = l.flatMap Nc := by
          rw [List.take_of_length_le (by simp), flatN_map, List.map_map]
          rfl
        rwa [this] at h1
def encF (x : Fd Nat) : Array Value := #[.agg #[.int .i64 x.st, .slice x.A x.wd.length x.c]]
set_option maxRecDepth 100000 in
set_option maxHeartbeats 4000000 in
theorem search_stops (n : Nat) (nx : Nat → Nat → Nat) (m b : Nat) (U : List Nat) (hbU : b ∈ U) (hU : ∀ s ∈ U, ∀ a, a < m → nx s a ∈ U) (hUl : U.length ≤ 100) (hm : m ≤ 100) (B1 B2 B3 g : Nat) (first caps : Array Value) (M : Nat → Prop) (w : World)
    (h1 : w.cell? ⟨B1, 0, none⟩ = some (.int .i64 b)) (h2 : w.cell? ⟨B2, 0, none⟩ = some (.int .i64 m)) (h3 : w.cell? ⟨B3, 0, none⟩ = some (.func (.func g) first caps)) (hM1 : ¬ M B1) (hM2 : ¬ M B2) (hM3 : ¬ M B3) (hMw : ∀ k, M k → k < w.heap.size)
    (eg : ∀ args w, (callFunc g args).run Tryz.prog w = .ok (.enter g args) w)
    (hnx : ∀ s ∈ U, ∀ a, a < m → ∀ W, Lie M w W → Calls Tryz.prog g (first ++ #[.int .i64 s, .int .i64 a] ++ caps) W fun e w' => e = .returned (.int .i64 (nx s a)) ∧ Below W.heap.size W w') :
    StopsW Fence.wide n Tryz.prog 58 #[.pointer (some ⟨B1, 0, none⟩), .pointer (some ⟨B2, 0, none⟩), .pointer (some ⟨B3, 0, none⟩)] encF gvF M (fun pre x W => (pre ++ [x]).map Fd.key <+: bfsB nx m b U.length ∧ At 1 Nc W x.A x.wd)
      (fun xs => xs.map Fd.key = bfsB nx m b U.length) (fun pre => pre.map Fd.key <+: bfsB nx m b U.length) U.length w := by
  intro l J Jx W hW hlw hlW hJ hJx hY h0
  have hws := hW.size
  have g1 : W.cell? ⟨B1, 0, none⟩ = some (.int .i64 b) := (hW.cell (p := ⟨B1, 0, none⟩) (World.block_lt_of_cell? _ _ h1)).trans h1
  have hB1 : B1 < w.heap.size := World.block_lt_of_cell? _ _ h1
  have hB2 : B2 < w.heap.size := World.block_lt_of_cell? _ _ h2
  have hB3 : B3 < w.heap.size := World.block_lt_of_cell? _ _ h3
  have hmp0 : MapAt encI Value.bool (W.alloc (.map #[] 0)) W.heap.size ([] : List (Nat × Bool)) := ⟨#[], 0, World.alloc_heap_new W _, rfl⟩
  obtain ⟨ob, hrun0, hmp1⟩ := hmp0.update (t := 105) key3 Tryz.underlying105 b true
  have hrun0' : (Instr.mapUpdate 105 (.map (some W.heap.size)) (.int .i64 b) (.bool true)).run Tryz.prog (W.alloc (.map #[] 0)) = .ok () ((W.alloc (.map #[] 0)).putObj W.heap.size ob) := hrun0
  have hgr1 : W.grownBy ((W.alloc (.map #[] 0)).putObj W.heap.size ob) none := ⟨rfl, rfl, rfl, by simp, fun k hk _ => (World.putObj_heap_other (by omega)).trans (Below.heap_alloc W _ k hk)⟩
  have hs1 : ((W.alloc (.map #[] 0)).putObj W.heap.size ob).heap.size = W.heap.size + 1 := by simp
  have q1 : (W.alloc (.map #[] 0)).cell? ⟨B1, 0, none⟩ = some (.int .i64 b) := by rw [World.cell?_alloc_past _ _ _ (by omega)]; exact g1
  have hmk : (Instr.makeMap 105 none).run Tryz.prog W = .ok (.map (some W.heap.size)) (W.alloc (.map #[] 0)) := by kernel_rfl
  generalize (W.alloc (.map #[] 0)).putObj W.heap.size ob = w1 at *
  have r1 : w1.cell? ⟨B1, 0, none⟩ = some (.int .i64 b) := by
    rw [← g1]
    exact World.cell?_of_block (a := ⟨B1, 0, none⟩) (hgr1.block B1 (by omega) (by simp))
  have hg2 : W.grownBy (w1.alloc (.cells #[.int .i64 b, .slice none 0 0] 70)) none := ⟨hgr1.os, hgr1.tape, hgr1.output, by simp; omega, fun k hk _ => (Below.heap_alloc w1 _ k (by omega)).trans (hgr1.block k hk (by simp))⟩
  have hSR0 : SR W.heap.size M w J W.heap.size [] [Fd.mk b [] none 0] (fun _ => False) w1.heap.size (w1.alloc (.cells #[.int .i64 b, .slice none 0 0] 70)) := by
    refine ⟨fun y hy => ?_, fun y hy r hv => ?_, hJ _ _ _ _ _ h0 hg2 (fun r e => by cases e), fun r h => h.elim, ?_, ⟨hws, hg2.size⟩, ⟨Nat.le_refl _, by simp; omega⟩, ⟨by omega, by simp⟩, by omega, fun y hy => ?_⟩
    · rw [List.nil_append, List.mem_singleton] at hy
      subst hy
      intro k x hx
      simp at hx
    · rw [List.nil_append, List.mem_singleton] at hy
      subst hy
      obtain ⟨a, ha, -⟩ := hv
      cases ha
    · refine ⟨Nat.le_trans hws hg2.size, fun k hk hm => ?_⟩
      rw [hg2.block k (Nat.lt_of_lt_of_le hk hws) (by simp)]
      exact hW.block k hk
    · rw [List.nil_append, List.mem_singleton] at hy
      subst hy
      exact Nat.le_refl _
  have hSI0 : SI nx m b U.length encI (fun (s : Nat) => [.int .i64 s]) 70 2 W.heap.size M w J W.heap.size (.slice (some ⟨w1.heap.size, 0, none⟩) 1 1) U.length (w1.alloc (.cells #[.int .i64 b, .slice none 0 0] 70)) := by
    have hB : BInv nx m b [] [(b, [])] [b] m := by
      have h := BInv.begin nx m b
      exact ⟨h.seen, h.run, h.sorted, h.one, (fun p hp => by cases hp), (fun q hq => by
        simp at hq
        subst hq
        exact .inl ⟨rfl, rfl⟩), h.start⟩
    have hQ := OwnQ.made w1 70 2 [.int .i64 (b : Int), .slice none 0 0] rfl
    obtain ⟨g9, off9, cap9, cs9, e9, b9, r9⟩ := hQ
    refine ⟨[], [Fd.mk b [] none 0], [b], fun _ => False, w1.heap.size, hB, by simp, rfl, rfl, ⟨g9, off9, cap9, cs9, e9, by omega, r9⟩, hmp1.kept ?_ |> fun h => h, hSR0⟩
    exact Below.heap_alloc w1 _ _ (by omega)
  obtain ⟨SX, hSX⟩ : ∃ SX : Value → Nat → World → Prop, SX = fun v f wr => SI nx m b U.length encI (fun (s : Nat) => [.int .i64 s]) 70 2 W.heap.size M w J W.heap.size v f wr := ⟨_, rfl⟩
  have hSX1 : Hid (∀ v f wr, SX v f wr → SI nx m b U.length encI (fun (s : Nat) => [.int .i64 s]) 70 2 W.heap.size M w J W.heap.size v f wr) := by rw [hSX]; exact fun _ _ _ h => h
  have hSX2 : Hid (∀ v f wr, SI nx m b U.length encI (fun (s : Nat) => [.int .i64 s]) 70 2 W.heap.size M w J W.heap.size v f wr → SX v f wr) := by rw [hSX]; exact fun _ _ _ h => h
  rw [hs1] at hSI0
  have hSI0' := Lib.hid hSI0
  have hMl := Lib.hid hMw
  have hY' := Lib.hid hY
  have hJ' := Lib.hid hJ
  have hnx' := Lib.hid hnx
  have hU' := Lib.hid hU
  have hbU' := Lib.hid hbU
  have hM1' := Lib.hid hM1
  have hM2' := Lib.hid hM2
  have hM3' := Lib.hid hM3
  clear hSI0 hSR0 hmp0 hmp1 hrun0 hY hJ hJx hnx hU hbU hM1 hM2 hM3 h0 hMw
  refine callsIn_of_wp Tryz.func58 rfl trivial ?_
  simp only [Tryz.ntmps58, List.size_toArray, List.length_cons, List.length_nil, Nat.reduceAdd, Nat.reduceSub, Array.replicate_succ, Array.replicate_zero, List.push_toArray, List.append_toArray, List.nil_append, List.cons_append]
  gi_wp2_with fail
  gi_loopw [6] (fun v wr => ∃ f, SX v f wr) (fun v wr => leastOf fun f => SX v f wr)
  case atStart => exact ⟨U.length, hSX2.out _ _ _ hSI0'.out⟩
  case round =>
    clear hSI0' r1 q1 g1 hrun0' hmk
    obtain ⟨f, hf⟩ : ∃ f, (leastOf fun f => SX u6 f wr) = f := ⟨_, rfl⟩
    have hls := (leastOf_spec hrel).1
    rw [hf] at hls
    have hf' := Lib.hid hf
    clear hf hrel
    obtain ⟨D, q, seen, T, vb, hbi, hlen, hL, hvb, hoq, hmp, hSR⟩ := hSX1.out _ _ _ hls
    clear hls
    cases q with
    | nil =>
      have hL2 : Hid (D.map Fd.key = bfsB nx m b U.length) := by
        unfold Hid
        rw [← hL]
        cases f <;> simp [bfs]
      have hjj := Lib.hid hSR.jj
      obtain ⟨g5, off, cap, cs5, rfl, -, -, -⟩ := hoq
      clear hbi hL hvb hmp hSR
      gi_wp2
      go_end0
      exact ⟨⟨_, rfl⟩, .inl ⟨D, T, hL2.out, hjj.out⟩⟩
    | cons x q =>
      have hfn : 0 < f := by
        have := hbi.len U hbU'.out hU'.out
        rw [List.length_append, List.length_map, List.length_map, List.length_cons] at this
        omega
      obtain ⟨f, rfl⟩ : ∃ f', f = f' + 1 := ⟨f - 1, by omega⟩
      have hL2 : (D ++ [x]).map Fd.key ++ bfs nx m f (push nx x.st x.wd seen (q.map Fd.key) m).1 (push nx x.st x.wd seen (q.map Fd.key) m).2 = bfsB nx m b U.length := by
        rw [← hL, List.map_append, List.append_assoc]
        rfl
      have hxU : x.st ∈ U := hbi.univ U hbU'.out hU'.out x.key (by simp)
      have hbt : BInv nx m b ((D ++ [x]).map Fd.key) (q.map Fd.key) seen 0 := by
        rw [List.map_append]
        exact hbi.take
      obtain ⟨g5, off, cap, cs5, rfl, -⟩ := id hoq
      have l0 : wr.cell? ⟨g5, off + 0, none⟩ = some (.int .i64 x.st) := hoq.cell 0 _ rfl
      have l1 : wr.cell? ⟨g5, off + 1, none⟩ = some (.slice x.A x.wd.length x.c) := hoq.cell 1 _ rfl
      rw [Nat.add_zero] at l0
      have hg5 : g5 < wr.heap.size := World.block_lt_of_cell? _ _ l0
      obtain ⟨wa, hwa⟩ : ∃ wa, wr.alloc (.cells #[.int .i64 x.st, .slice x.A x.wd.length x.c] 70) = wa := ⟨_, rfl⟩
      have hba : Below wr.heap.size wr wa := by rw [← hwa]; exact new_below _ _
      have hSRa := hSR.grow hJ'.out hba
      have hX : wa.heap[wr.heap.size]? = some (.cells #[.int .i64 x.st, .slice x.A x.wd.length x.c] 70 (0, 0)) := by rw [← hwa]; exact bk_new _ _ rfl
      obtain ⟨i70, z70, hi70, hz70, hi70s, hz70s, hi70b⟩ := info_of (t := 70) (n := 2) (b := 32) (by kernel_rfl)
      have hqn : q.length ≤ 1000 := by
        have := hbi.len U hbU'.out hU'.out
        rw [List.length_append, List.length_map, List.length_map, List.length_cons] at this
        omega
      obtain ⟨v', hcut, hoq', hvb'⟩ := (hoq.below hba).cut (P := Tryz.prog) (t := 106) Tryz.underlying106 hi70 hi70s (ys := qcs (fun (s : Nat) => [.int .i64 s]) x) rfl hqn
      obtain ⟨fn, tm, asg, bod, hy, hR⟩ := hY'.out D T x wa hSRa.jj (fun r hr => ⟨(hSRa.tt r hr).1, (hSRa.tt r hr).2.1⟩) (fun y hy r hr => (hSRa.qgv y (by
          rcases List.mem_append.1 hy with h | h
          · exact List.mem_append_left _ h
          · rw [List.mem_singleton] at h
            subst h
            simp) r hr).1) (by omega) ⟨⟨_, hL2⟩, hSRa.qat x (by simp)⟩
      have hcut' : (Instr.slice 106 (.slice (some ⟨g5, off, none⟩) (q.length + 1) cap) (some (.int .i64 1)) none none).run Tryz.prog wa = .ok v' wa := hcut
      have hy' : (Instr.yield l #[.agg #[.int .i64 x.st, .slice x.A x.wd.length x.c]]).run Tryz.prog wa = .ok (.round l fn tm asg bod) wa := hy
      have hR' := Lib.hid hR
      have hSR' := Lib.hid hSR
      have hSRa' := Lib.hid hSRa
      have hoq2 := Lib.hid hoq'
      have hvb2 := Lib.hid hvb'
      have hvb3 := Lib.hid hvb
      have hL2' := Lib.hid hL2
      have hbt' := Lib.hid hbt
      have hmp' := Lib.hid (hmp.below hba)
      have hxU' := Lib.hid hxU
      have hX' := Lib.hid hX
      have hlen' := Lib.hid hlen
      have hxl : Hid (x.wd.length ≤ D.length) := hSR.wl x (by simp)
      obtain ⟨s, hs⟩ : ∃ s, x.st = s := ⟨_, rfl⟩
      obtain ⟨A, hA⟩ : ∃ A, x.A = A := ⟨_, rfl⟩
      obtain ⟨c, hc⟩ : ∃ c, x.c = c := ⟨_, rfl⟩
      obtain ⟨nw, hnw⟩ : ∃ nw, x.wd.length = nw := ⟨_, rfl⟩
      have hs' := Lib.hid hs
      have hA' := Lib.hid hA
      have hc' := Lib.hid hc
      have hnw' := Lib.hid hnw
      rw [hs] at l0
      rw [hA, hnw, hc] at l1
      rw [hs, hA, hnw, hc] at hwa hy'
      have hqI : (0 : Int) < ((q.length + 1 : Nat) : Int) := by omega
      rw [show (List.length (x :: q)) = q.length + 1 from rfl] at *
      clear hbi hlen hL hvb hoq hmp hSR hL2 hxU hbt hSRa hX hcut hoq' hvb' hy hR hs hA hc hnw
      generalize hQ : q.length = Q at hcut' hqI hqn ⊢
      have X0 := bk2 hX'.out
      rw [hs'.out, hA'.out, hnw'.out, hc'.out] at X0
      gi_wp2_with fail
      clear hcut' hy' hqI X0 l0 l1
      refine ⟨fun h => (by cases h), hR'.out.mono ?_⟩
      clear hR'
      rintro e w4 ⟨T', t1, t2, hli, (⟨rfl, hJ4⟩ | ⟨rfl, hJ4⟩)⟩
      · have hSR4 := hSRa'.out.take hlW hlw (fun k hk => by have := hMl.out k hk; omega) hli t1 t2 hJ4
        have hTw : ∀ r, T r → r < wr.heap.size := fun r h => (hSR'.out.tt r h).2.1
        have hwW : W.heap.size ≤ wr.heap.size := hSR'.out.bs.2
        have hbad : ∀ r, W.heap.size ≤ r → ¬ T r → ¬ (M r ∨ T r ∨ r = l) := fun r hr ht => by
          rintro (h | h | h)
          · have := hMl.out r h; omega
          · exact ht h
          · omega
        have hX4 : w4.heap[wr.heap.size]? = some (.cells #[.int .i64 s, .slice A nw c] 70 (0, 0)) := by
          have := hli.obj (k := wr.heap.size) (hbad _ hwW fun h => by have := hTw _ h; omega) hX'.out
          rwa [hs'.out, hA'.out, hnw'.out, hc'.out] at this
        have hoq4 : OwnQ w4 W.heap.size 70 2 v' q.length (q.flatMap (qcs fun (s : Nat) => [.int .i64 s])) := hoq2.out.kept fun r hr => by
          rw [hvb2.out, hvb3.out] at hr
          cases hr
          have := hSRa'.out.vbb
          exact hli.same _ this.2 (hbad _ this.1 fun h => (hSRa'.out.tt _ h).2.2.2 rfl)
        have hmp4 : MapAt encI Value.bool w4 W.heap.size (seen.map fun s => (s, true)) := hmp'.out.kept (hli.same _ hSRa'.out.mbb.2 (hbad _ (Nat.le_refl _) fun h => (hSRa'.out.tt _ h).2.2.1 rfl))
        have hvb4 : v'.ownBlock = some vb := hvb2.out.trans hvb3.out
        have hXv : vb < wr.heap.size := hSR'.out.vbb.2
        have hXm : W.heap.size < wr.heap.size := hSR'.out.mbb.2
        have m4 : w4.cell? ⟨B2, 0, none⟩ = some (.int .i64 m) := hSR4.lie.cell hM2'.out h2
        have hB24 : B2 < w4.heap.size := World.block_lt_of_cell? _ _ m4
        obtain ⟨SY, hSY⟩ : ∃ SY : Value → Nat → World → Prop, SY = fun v k wi => SK nx m b U.length encI (fun (s : Nat) => [.int .i64 s]) 70 2 W.heap.size M w J W.heap.size D x T' f seen (q.map Fd.key) v k wi := ⟨_, rfl⟩
        have hSY1 : Hid (∀ v f wr, SY v f wr → SK nx m b U.length encI (fun (s : Nat) => [.int .i64 s]) 70 2 W.heap.size M w J W.heap.size D x T' f seen (q.map Fd.key) v f wr) := by rw [hSY]; exact fun _ _ _ h => h
        have hSY2 : Hid (∀ v f wr, SK nx m b U.length encI (fun (s : Nat) => [.int .i64 s]) 70 2 W.heap.size M w J W.heap.size D x T' f seen (q.map Fd.key) v f wr → SY v f wr) := by rw [hSY]; exact fun _ _ _ h => h
        have hSY0 : Hid (SY v' 0 w4) := hSY2.out _ _ _ ⟨q, seen, vb, hbt'.out, rfl, hvb4, hoq4, hmp4, hSR4⟩
        have hXne0 : ∀ r, v'.ownBlock = some r → wr.heap.size ≠ r := fun r hr => by
          rw [hvb4] at hr
          cases hr
          omega
        clear hSY hoq4 hmp4 hSR4 hbad hTw hli hJ4 t1 t2 hSRa' hSR' hoq2 hvb2 hvb3 hmp' hbt' hX' hvb4 hXv
        obtain ⟨X, hXe⟩ : ∃ X, wr.heap.size = X := ⟨_, rfl⟩
        rw [hXe] at hX4 hXne0 hXm ⊢
        gi_wp2_with fail
        gi_loopw [29, 6] (fun kk v wi => ∃ k : Nat, k ≤ m ∧ kk = .int .i64 k ∧ Hid (SY v k wi) ∧ wi.heap[X]? = some (.cells #[.int .i64 s, .slice A nw c] 70 (0, 0)) ∧ Hid (∀ r, v.ownBlock = some r → X ≠ r))
          (fun kk _ _ => m - (intOf kk).toNat)
        case atStart => exact ⟨0, Nat.zero_le _, rfl, hSY0, hX4, hXne0⟩
        case round =>
          clear hSY0 hX4 hXne0 m4 hB24
          obtain ⟨k, hk, rfl, hsy, hXi, hXne⟩ := hrel
          obtain ⟨q1, seen1, vb1, hbi, hpu, hvb1, hoq1, hmp1, hSRi⟩ := hSY1.out _ _ _ hsy.out
          by_cases hlt : k < m
          · have m3 : wr.cell? ⟨B3, 0, none⟩ = some (.func (.func g) first caps) := hSRi.lie.cell hM3'.out h3
            have hB3r : B3 < wr.heap.size := World.block_lt_of_cell? _ _ m3
            have hCn := hnx'.out s (by rw [← hs'.out]; exact hxU'.out) k hlt wr hSRi.lie
            obtain ⟨t, ht⟩ : ∃ t, nx s k = t := ⟨_, rfl⟩
            rw [ht] at hCn
            have hCn' := Lib.hid hCn
            have hkI : (k : Int) < (m : Int) := by omega
            have hkw : IntKind.i64.wrap ((k : Int) + 1) = ((k + 1 : Nat) : Int) := by
              rw [Int.natCast_add]
              exact IntWalk.i64_in _ (by omega)
            have Xi := bk2 hXi
            have hXr := bk_size hXi
            have hbi' := Lib.hid hbi
            have hpu' := Lib.hid hpu
            have hvb1' := Lib.hid hvb1
            have hoq1' := Lib.hid hoq1
            have hmp1' := Lib.hid hmp1
            have hSRi' := Lib.hid hSRi
            have hXi' := Lib.hid hXi
            by_cases hin : t ∈ seen1
            · have hin' := Lib.hid hin
              clear hbi hpu hvb1 hoq1 hmp1 hSRi hXi hsy hCn hin
              gi_wp2_with (refine wpListIn_callv (ts := #[3, 3]) (g := g) (first := first) (caps := caps) (X := .int .i64 s) (Y := .int .i64 k) (v := .int .i64 t) (R := fun w' => Below wr.heap.size wr w') (by with_reducible rfl) (.tmp 32) (.tmp 34) (.tmp 35) (by with_reducible rfl) (by rfl) (by rfl) (by rfl) eg (fun _ => trivial) (fun h => (by cases h)) (callsIn_wide.2 hCn'.out) ?_; intro w5 hb5; have hlk : (Instr.lookup 105 (.map (some W.heap.size)) (.int .i64 t) false).run Tryz.prog w5 = .ok (.bool true) w5 := (by have := (hmp1'.out.below hb5).look (t := 105) key3 Tryz.underlying105 (z := .bool false) (by kernel_rfl) t false; rw [lkM_set, if_pos hin'.out] at this; exact this))
              go_roundw
              case rel =>
                have hc5 : push nx x.st x.wd seen (q.map Fd.key) (k + 1) = (seen1, q1.map Fd.key) := by
                  unfold Go.Proofs.push
                  rw [hpu'.out]
                  dsimp only
                  rw [hs'.out, ht, if_pos (by simpa using hin'.out)]
                have hst : BInv nx m b ((D ++ [x]).map Fd.key) (q1.map Fd.key) seen1 (k + 1) := by
                  rw [List.map_append] at hbi' ⊢
                  exact (hbi'.out.step hlt).1 (by rw [show (Fd.key x).1 = s from hs'.out, ht]; simpa using hin'.out)
                exact ⟨k + 1, by omega, by go_num, hSY2.out _ _ _ ⟨q1, seen1, vb1, hst, hc5, hvb1'.out, hoq1'.out.below hb5, hmp1'.out.below hb5, hSRi'.out.grow hJ'.out hb5⟩, bk_keep hb5 hXi'.out, hXne⟩
              case measure => simp [intOf]; omega
            · have hin' := Lib.hid hin
              have hnw4 : nw ≤ 1000 := by
                have h1 := hxl.out
                rw [hnw'.out] at h1
                have h2 := hlen'.out
                omega
              have hq4 : q1.length ≤ 1000 := by
                have := hbi.len U hbU'.out hU'.out
                rw [List.length_append, List.length_map, List.length_map] at this
                omega
              clear hbi hpu hvb1 hoq1 hmp1 hSRi hXi hsy hCn hin
              obtain ⟨i3, z3, hi3, hz3, hi3s, hz3s, hi3b⟩ := info_of (t := 3) (n := 1) (b := 8) (by kernel_rfl)
              obtain ⟨i70, z70, hi70, hz70, hi70s, hz70s, hi70b⟩ := info_of (t := 70) (n := 2) (b := 32) (by kernel_rfl)
              gi_wp2_with (first
                | (refine wpListIn_callv (ts := #[3, 3]) (g := g) (first := first) (caps := caps) (X := .int .i64 s) (Y := .int .i64 k) (v := .int .i64 t) (R := fun w' => Below wr.heap.size wr w') (by with_reducible rfl) (.tmp 32) (.tmp 34) (.tmp 35) (by with_reducible rfl) (by rfl) (by rfl) (by rfl) eg (fun _ => trivial) (fun h => (by cases h)) (callsIn_wide.2 hCn'.out) ?_
                   intro w5 hb5
                   have hmp5 := hmp1'.out.below hb5
                   have hlk : (Instr.lookup 105 (.map (some W.heap.size)) (.int .i64 t) false).run Tryz.prog w5 = .ok (.bool false) w5 := (by have := hmp5.look (t := 105) key3 Tryz.underlying105 (z := .bool false) (by kernel_rfl) t false; rw [lkM_set, if_neg hin'.out] at this; exact this)
                   obtain ⟨o5, hup, hmp6⟩ := hmp5.update (t := 105) key3 Tryz.underlying105 t true
                   have hup' : (Instr.mapUpdate 105 (.map (some W.heap.size)) (.int .i64 t) (.bool true)).run Tryz.prog w5 = .ok () (w5.putObj W.heap.size o5) := hup
                   have hg6 := grownBy_putObj' w5 W.heap.size o5
                   have hmp6' := Lib.hid hmp6
                   clear hmp6 hup hmp5
                   obtain ⟨w6, hw6⟩ : ∃ w6, w5.putObj W.heap.size o5 = w6 := ⟨_, rfl⟩
                   rw [hw6] at hup' hg6 hmp6'
                   have hSR6 := (hSRi'.out.grow hJ'.out hb5).row hJ'.out hg6 (fun r e => by cases e; exact .inl rfl)
                   have X6 : w6.heap[X]? = some (.cells #[.int .i64 s, .slice A nw c] 70 (0, 0)) := (by rw [hg6.block X (bk_size (bk_keep hb5 hXi'.out)) (by intro e; injection e with e; omega)]; exact bk_keep hb5 hXi'.out)
                   have Y6 := bk2 X6
                   have hXs6 := bk_size X6
                   clear hw6))
              refine ⟨trivial, fun h => (by cases h), (callsIn_wide.2 (by
                have hat6 := hSR6.qat x (by simp)
                have hC := cloneInts_any x.A x.wd x.c w6 (by rw [hnw'.out]; exact hnw4) hat6
                rw [hA'.out, hnw'.out, hc'.out] at hC
                exact hC)).mono ?_⟩
              rintro e w7 ⟨v7, rfl, hown7, hb7⟩
              have hown8 := hown7.alloc (.cells #[.int .i64 (k : Int)] 3)
              obtain ⟨v50, w9, hr50, hown9, hor9⟩ := run_append3 (P := Tryz.prog) (w := w7.alloc (.cells #[.int .i64 (k : Int)] 3)) w6.heap.size 26 26 3 i3 z3 1 8 Tryz.underlying26 hi3 hz3 hi3s hi3b hz3s v7 nw (x.wd.flatMap Nc) hown8 ⟨w7.heap.size, 0, none⟩ 1 1 [.int .i64 (k : Int)] rfl (fun j u hj => by
                have := bk_new w7 (.cells #[.int .i64 (k : Int)] 3) rfl
                exact World.news_of_block this j u hj) (by intro u hu; simp at hu; subst hu; rfl) (by decide) (by unfold maxLen; omega) (by omega) (by have := hb7.size; simp; omega)
              obtain ⟨g50, c50, rfl, hg50, hg50s⟩ := hown9.form (by omega)
              have hb9 : Below w6.heap.size w6 w9 := by
                have h8 : Below w6.heap.size w6 (w7.alloc (.cells #[.int .i64 (k : Int)] 3)) := via hb7 (new_below _ _)
                rcases hor9 with ⟨h, -⟩ | ⟨h, -⟩
                · exact h8.grown h h8.size (fun r e => by cases e)
                · exact h8.grown h h8.size (fun r e => (hown8.lt r e).1)
              have hoq6 : OwnQ w6 W.heap.size 70 2 u6 q1.length (q1.flatMap (qcs fun (s : Nat) => [.int .i64 s])) := (hoq1'.out.below hb5).kept fun r hr => hg6.block r (by
                rw [hvb1'.out] at hr
                cases hr
                have := hSRi'.out.vbb.2
                have := hb5.size
                omega) (by
                rw [hvb1'.out] at hr
                cases hr
                intro e
                injection e with e
                exact hSRi'.out.ne e)
              have hb10 : Below w6.heap.size w6 (w9.alloc (.cells #[.int .i64 (t : Int), .slice (some ⟨g50, 0, none⟩) (nw + 1) c50] 70)) := via hb9 (new_below _ _)
              obtain ⟨v53, w11, hr53, hoq11, hgr11, hvb11⟩ := (hoq6.below hb10).append (P := Tryz.prog) 106 106 Tryz.underlying106 hi70 hz70 hi70s hi70b hz70s ⟨w9.heap.size, 0, none⟩ 1 1 [.int .i64 (t : Int), .slice (some ⟨g50, 0, none⟩) (nw + 1) c50] rfl (fun j u hj => by
                have := bk_new w9 (.cells #[.int .i64 (t : Int), .slice (some ⟨g50, 0, none⟩) (nw + 1) c50] 70) rfl
                exact World.news_of_block this j u hj) (by intro u hu; simp at hu; rcases hu with rfl | rfl <;> rfl) (by unfold maxLen; omega) (by omega) (by have := hSR6.bs.2; have := hb10.size; omega)
              clear Y6 hXs6
              gi_wp2_with (first
                | (refine wpListIn_app (by with_reducible rfl) (.tmp 47) (.tmp 49) 26 (by with_reducible rfl) (by rfl) (by rfl) hr50 ?_)
                | (refine wpListIn_app (by with_reducible rfl) (.tmp 43) (.tmp 52) 106 (by with_reducible rfl) (by rfl) (by rfl) hr53 ?_))
              go_roundw
              case rel =>
                obtain ⟨vb2, hv53, -, hvb2s⟩ := hoq11.block
                rw [hvb1'.out] at hgr11 hvb11
                have hvor : vb2 = vb1 ∨ vb2 = (w9.alloc (.cells #[.int .i64 (t : Int), .slice (some ⟨g50, 0, none⟩) (nw + 1) c50] 70)).heap.size := by
                  rw [hv53] at hvb11
                  rcases hvb11 with h | h
                  · injection h with h; exact .inl h
                  · injection h with h; exact .inr h
                have hnin : seen1.contains (nx (Fd.key x).1 k) = false := by
                  rw [show (Fd.key x).1 = s from hs'.out, ht]
                  simpa using hin'.out
                have hst : BInv nx m b ((D ++ [x]).map Fd.key) ((q1 ++ [Fd.mk t (x.wd ++ [k]) (some ⟨g50, 0, none⟩) c50]).map Fd.key) (seen1 ++ [t]) (k + 1) := by
                  have h5 := hbi'.out
                  rw [List.map_append] at h5 ⊢
                  have := (h5.step hlt).2 hnin
                  rw [show (Fd.key x).1 = s from hs'.out, ht] at this
                  rw [List.map_append]
                  exact this
                have hc5 : push nx x.st x.wd seen (q.map Fd.key) (k + 1) = (seen1 ++ [t], (q1 ++ [Fd.mk t (x.wd ++ [k]) (some ⟨g50, 0, none⟩) c50]).map Fd.key) := by
                  unfold Go.Proofs.push
                  rw [hpu'.out]
                  dsimp only
                  rw [hs'.out, ht, if_neg (by simpa using hin'.out), List.map_append]
                  rfl
                have hay : At 1 Nc (w9.alloc (.cells #[.int .i64 (t : Int), .slice (some ⟨g50, 0, none⟩) (nw + 1) c50] 70)) (some ⟨g50, 0, none⟩) (x.wd ++ [k]) := by
                  have h1 : w9.ownsRow w6.heap.size 3 1 (.slice (some ⟨g50, 0, none⟩) (nw + 1) c50) (x.wd ++ [k]).length ((x.wd ++ [k]).flatMap Nc) := by
                    rw [List.length_append, hnw'.out, List.flatMap_append]
                    exact hown9
                  obtain ⟨A', c', e', h2⟩ := at_of_owns (cs := Nc) (sz := 1) (fun _ => rfl) h1
                  injection e' with e1 _ _
                  rw [← e1] at h2
                  exact h2.below (new_below _ _)
                have hoq12 : OwnQ w11 W.heap.size 70 2 v53 (q1 ++ [Fd.mk t (x.wd ++ [k]) (some ⟨g50, 0, none⟩) c50]).length ((q1 ++ [Fd.mk t (x.wd ++ [k]) (some ⟨g50, 0, none⟩) c50]).flatMap (qcs fun (s : Nat) => [.int .i64 s])) := by
                  rw [List.length_append, List.flatMap_append]
                  have : ([Fd.mk t (x.wd ++ [k]) (some ⟨g50, 0, none⟩) c50] : List (Fd Nat)).flatMap (qcs fun (s : Nat) => [.int .i64 s]) = [.int .i64 (t : Int), .slice (some ⟨g50, 0, none⟩) (nw + 1) c50] := by
                    simp [qcs, hnw'.out]
                  rw [this]
                  exact hoq11
                have hmp12 : MapAt encI Value.bool w11 W.heap.size ((seen1 ++ [t]).map fun s => (s, true)) := by
                  rw [← setM_set _ _ hin'.out]
                  refine (hmp6'.out.below hb10).kept (hgr11.block _ ?_ fun e => ?_)
                  · have := hSR6.mbb.2
                    have := hb10.size
                    omega
                  · injection e with e
                    exact hSR6.ne e.symm
                have hX12 : w11.heap[X]? = some (.cells #[.int .i64 s, .slice A nw c] 70 (0, 0)) := by
                  rw [hgr11.block X (bk_size (bk_keep hb10 X6)) (fun e => by injection e with e; exact hXne.out vb1 hvb1'.out e)]
                  exact bk_keep hb10 X6
                have hSR11 := hSR6.push (y := Fd.mk t (x.wd ++ [k]) (some ⟨g50, 0, none⟩) c50) hJ'.out hb10 hay (fun r ⟨a, ha, hr⟩ => by
                  cases ha
                  subst hr
                  exact ⟨hg50, by simp; omega⟩) hgr11 hvor hvb2s (by
                  have h1 := hxl.out
                  rw [List.length_append, List.length_append]
                  simp only [List.length_cons, List.length_nil]
                  omega)
                refine ⟨k + 1, by omega, by go_num, hSY2.out _ _ _ ⟨_, _, vb2, hst, hc5, hv53, hoq12, hmp12, hSR11⟩, hX12, fun r hr => ?_⟩
                rw [hv53] at hr
                cases hr
                rcases hvor with rfl | rfl
                · exact hXne.out _ hvb1'.out
                · have := bk_size (bk_keep hb10 X6)
                  omega
              case measure => simp [intOf]; omega
          · have hkm : k = m := by omega
            subst hkm
            have hnew : Hid (SX u6 f wr) := by
              refine hSX2.out _ _ _ ⟨D ++ [x], q1, seen1, T', vb1, hbi, ?_, ?_, hvb1, hoq1, hmp1, hSRi⟩
              · have := hlen'.out
                rw [List.length_append, List.length_singleton]
                omega
              · have := hL2'.out
                rw [hpu] at this
                exact this
            have hkI : ¬ (k : Int) < (k : Int) := by omega
            clear hbi hpu hvb1 hoq1 hmp1 hSRi hsy hXi hXne
            gi_wp2_with fail
            refine ⟨⟨f, hnew.out⟩, ?_⟩
            have h5 := hf'.out
            rw [hQ] at h5
            rw [h5]
            exact Nat.lt_succ_of_le ((leastOf_spec (p := fun f => SX u6 f wr) ⟨f, hnew.out⟩).2 f hnew.out)
      · have hJ5' := Lib.hid hJ4
        clear hli hJ4
        gi_wp2
        refine bodyPost_ret (results_none rfl _ _ _) rfl ?_
        exact ⟨⟨_, rfl⟩, .inr ⟨_, _, ⟨_, hL2'.out⟩, hJ5'.out⟩⟩
end Go.Proofs

set_option linter.unusedSimpArgs false
set_option linter.unusedVariables false
namespace Go.Proofs
open Go.RowKit
section
variable {P : Program}
theorem owns_kept {w w' : World} {base : Nat} {e : TypeId} {sz n : Nat} {v : Value} {xs : List Value} (h : w.ownsRow base e sz v n xs) (hb : ∀ g, v.ownBlock = some g → w'.heap[g]? = w.heap[g]?) : w'.ownsRow base e sz v n xs := by
  refine ⟨h.1, ?_⟩
  rcases h.2 with h | ⟨g, cap, cur, rfl, h2, h3, h4⟩
  · exact .inl h
  · exact .inr ⟨g, cap, cur, rfl, h2, (hb g rfl).trans h3, h4⟩
def mkS (c m1 q1 m2 n nq : Nat) : Nat → Gh → Value := fun j g => if j = c then .slice g.a1 n g.c1 else if j = m1 then .slice (some ⟨g.b, 0, none⟩) 1 1 else if j = m2 then .slice (some ⟨g.b, 0, none⟩) 1 1 else if j = q1 then .slice g.a1 (n + 1) g.c1 else .slice g.a1 (nq + 1) g.c1
/-- A drawn region: a call 'c' hands back a list of its own, 'm1' makes a row, 'q1' appends it; 'm2' makes a row that holds the new list, 'q2' appends it to a queue; all else is quiet. -/
theorem any_cmqmq {Q : Exit → Act → World → Prop} {a0 : Act} {w : World} {l : List Oper} (w0 : World) (C : World → Prop) (c m1 q1 m2 q2 : Nat) (n nq : Nat) (base : Nat) (e1 : TypeId) (sz1 : Nat) (xs ys : List Value) (z1 : Obj) (z2 : Gh → Obj) (row : Gh → List Value) (bq : Nat) (te : TypeId) (sz : Nat) (v : Value) (qs : List Value) (af : (Nat → Gh) → Act)
    (hB : slotsOk l.toArray = true) (hB' : ∀ g, slotsOk (mixL [c, m1, q1, m2, q2] (mkS c m1 q1 m2 n nq) g 0 l).toArray = true) (hS : Region.noSelect l.toArray = true) (hN : spB l.toArray [c, m1, q1, m2, q2] = true)
    (hne : c ≠ m1 ∧ c ≠ q1 ∧ c ≠ m2 ∧ c ≠ q2 ∧ m1 ≠ q1 ∧ m1 ≠ m2 ∧ m1 ≠ q2 ∧ q1 ≠ m2 ∧ q1 ≠ q2 ∧ m2 ≠ q2)
    (hd1 : ∀ L : Nat → Bool, (∀ (i : Nat) (o : Oper), l[i]? = some o → L i = true → ∀ e ∈ o.after, Region.binds .any e = true → L e.on = true) → (∀ o, l[q1]? = some o → (∀ e ∈ o.after, Region.binds .any e = true → L e.on = true) → L c = true ∧ L m1 = true) ∧ (∀ o, l[m2]? = some o → (∀ e ∈ o.after, Region.binds .any e = true → L e.on = true) → L q1 = true) ∧ (∀ o, l[q2]? = some o → (∀ e ∈ o.after, Region.binds .any e = true → L e.on = true) → L m2 = true))
    (hC0 : C w) (hCs : ∀ x x', C x → Below x.heap.size x x' → C x') (hCw : ∀ x, C x → Below w0.heap.size w0 x)
    (hCg : ∀ x x' row, C x → x.grownBy x' row → (∀ r, row = some r → base ≤ r ∨ v.ownBlock = some r) → C x')
    (hvb : ∀ r, v.ownBlock = some r → r < base) (hCb : ∀ x, C x → base ≤ x.heap.size) (hown : OwnQ w bq te sz v nq qs)
    (hcl : ∀ o, l[c]? = some o → ∀ (g : Nat → Gh) (x : World), C x → ∃ f args, (execOp (af g).eval o).run P x = .ok (.enter f args) x ∧ Calls P f args x fun e' x' => ∃ A cp, e' = .returned (.slice A n cp) ∧ x'.ownsRow base e1 sz1 (.slice A n cp) n xs ∧ Below x.heap.size x x')
    (hal1 : ∀ o, l[m1]? = some o → ∀ (g : Nat → Gh) (x : World), (execOp (af g).eval o).run P x = .ok (.value (.slice (some ⟨x.heap.size, 0, none⟩) 1 1)) (x.alloc z1))
    (hap1 : ∀ o, l[q1]? = some o → ∀ (g : Nat → Gh) (x : World), C x → x.ownsRow base e1 sz1 (.slice (g c).a1 n (g c).c1) n xs → x.heap[(g m1).b]? = some z1 → ∃ v' x', (execOp (af g).eval o).run P x = .ok (.value v') x' ∧ x'.ownsRow base e1 sz1 v' (n + 1) (xs ++ ys) ∧ ((x.grownBy x' none ∧ v'.ownBlock = some x.heap.size) ∨ (x.grownBy x' (Value.slice (g c).a1 n (g c).c1).ownBlock ∧ v'.ownBlock = (Value.slice (g c).a1 n (g c).c1).ownBlock)))
    (hal2 : ∀ o, l[m2]? = some o → ∀ (g : Nat → Gh) (x : World), (execOp (af g).eval o).run P x = .ok (.value (.slice (some ⟨x.heap.size, 0, none⟩) 1 1)) (x.alloc (z2 (g q1))))
    (hap2 : ∀ o, l[q2]? = some o → ∀ (g : Nat → Gh) (x : World), C x → OwnQ x bq te sz v nq qs → x.heap[(g m2).b]? = some (z2 (g q1)) → ∃ v' x', (execOp (af g).eval o).run P x = .ok (.value v') x' ∧ OwnQ x' bq te sz v' (nq + 1) (qs ++ row (g q1)) ∧ x.grownBy x' v.ownBlock ∧ (v'.ownBlock = v.ownBlock ∨ v'.ownBlock = some x.heap.size))
    (hq : ∀ g u, C u → (∀ (x : Grew u) (b o : Nat), b < u.heap.size → x.val.cell? ⟨b, o, none⟩ = u.cell? ⟨b, o, none⟩) → Hid (∀ x : Grew u, Below w0.heap.size w0 x.val) → Hid (∀ x : Grew u, C x.val) →
      wpQuiet P (mixL [c, m1, q1, m2, q2] (mkS c m1 q1 m2 n nq) g 0 l).toArray (fun w' => ∃ x : Grew u, w' = x.val) (fun a' => a' = af g) (mixL [c, m1, q1, m2, q2] (mkS c m1 q1 m2 n nq) g 0 l) a0)
    (hind : ∀ j ∈ [c, m1, q1, m2, q2], ∀ g h, maskL (coneS l.toArray j 0 l []) 0 (af g).tmps.toList = maskL (coneS l.toArray j 0 l []) 0 (af (upd g j h)).tmps.toList)
    (hend : ∀ (g : Nat → Gh) (x : World), C x → x.ownsRow base e1 sz1 (.slice (g q1).a1 (n + 1) (g q1).c1) (n + 1) (xs ++ ys) → OwnQ x bq te sz (.slice (g q2).a1 (nq + 1) (g q2).c1) (nq + 1) (qs ++ row (g q1)) →
      ((Value.slice (g q2).a1 (nq + 1) (g q2).c1).ownBlock = v.ownBlock ∨ ∃ r, (Value.slice (g q2).a1 (nq + 1) (g q2).c1).ownBlock = some r ∧ base ≤ r ∧ some r ≠ (Value.slice (g q1).a1 (n + 1) (g q1).c1).ownBlock) → Q .normal (af g) x) :
    wpAny P .any l.toArray Q l.toArray.size (Array.replicate l.toArray.size false) a0 { w with drawn := w.drawn + 1 } := by
  obtain ⟨n1, n2, n3, n4, n5, n6, n7, n8, n9, n10⟩ := hne
  refine any_mixC w0 C [c, m1, q1, m2, q2] (mkS c m1 q1 m2 n nq) (fun L g x => ((L q1 = true → L c = true ∧ L m1 = true) ∧ (L m2 = true → L q1 = true) ∧ (L q2 = true → L m2 = true)) ∧
      (L q1 = false → L c = true → x.ownsRow base e1 sz1 (.slice (g c).a1 n (g c).c1) n xs) ∧ (L q1 = false → L m1 = true → x.heap[(g m1).b]? = some z1) ∧
      (L q1 = true → x.ownsRow base e1 sz1 (.slice (g q1).a1 (n + 1) (g q1).c1) (n + 1) (xs ++ ys)) ∧ (L q2 = false → L m2 = true → base ≤ (g m2).b ∧ x.heap[(g m2).b]? = some (z2 (g q1))) ∧ (L q2 = false → OwnQ x bq te sz v nq qs) ∧
      (L q2 = true → OwnQ x bq te sz (.slice (g q2).a1 (nq + 1) (g q2).c1) (nq + 1) (qs ++ row (g q1)) ∧ ((Value.slice (g q2).a1 (nq + 1) (g q2).c1).ownBlock = v.ownBlock ∨ ∃ r, (Value.slice (g q2).a1 (nq + 1) (g q2).c1).ownBlock = some r ∧ base ≤ r ∧ some r ≠ (Value.slice (g q1).a1 (n + 1) (g q1).c1).ownBlock))) af hB hB' hS hN hC0 hCs hCw ?_ ?_ hq hind ?_ ?_
  · intro L h
    have a1 := h c (by simp)
    have a2 := h m1 (by simp)
    have a3 := h q1 (by simp)
    have a4 := h m2 (by simp)
    have a5 := h q2 (by simp)
    rw [a1, a2, a3, a4, a5]
    exact ⟨⟨(fun h => by cases h), (fun h => by cases h), (fun h => by cases h)⟩, (fun _ h => by cases h), (fun _ h => by cases h), (fun h => by cases h), (fun _ h => by cases h), fun _ => hown, (fun h => by cases h)⟩
  · rintro L L' g x x' h ⟨j0, j1, j2, j3, j4, j5, j6⟩ hb
    have a1 := h c (by simp)
    have a2 := h m1 (by simp)
    have a3 := h q1 (by simp)
    have a4 := h m2 (by simp)
    have a5 := h q2 (by simp)
    rw [a1, a2, a3, a4, a5]
    exact ⟨j0, fun h h' => owns_below (j1 h h') hb, fun h h' => bk_keep hb (j2 h h'), fun h => owns_below (j3 h) hb, fun h h' => ⟨(j4 h h').1, bk_keep hb (j4 h h').2⟩, fun h => (j5 h).below hb, fun h => ⟨(j6 h).1.below hb, (j6 h).2⟩⟩
  · intro j hj o ho L g x ⟨⟨k1, k2, k3⟩, j1, j2, j3, j4, j5, j6⟩ hC hb0 hL hafter hclo
    obtain ⟨d1, d2, d3⟩ := hd1 L hclo
    have nq1 : L q1 = false → L m2 = false ∧ L q2 = false := fun h => by
      have a : L m2 = false := by
        cases hh : L m2 with
        | false => rfl
        | true => rw [k2 hh] at h; cases h
      refine ⟨a, ?_⟩
      cases hh : L q2 with
      | false => rfl
      | true => rw [k3 hh] at a; cases a
    have nm2 : L m2 = false → L q2 = false := fun h => by
      cases hh : L q2 with
      | false => rfl
      | true => rw [k3 hh] at h; cases h
    have nc : L c = false → L q1 = false := fun h => by
      cases hh : L q1 with
      | false => rfl
      | true => rw [(k1 hh).1] at h; cases h
    have nm1 : L m1 = false → L q1 = false := fun h => by
      cases hh : L q1 with
      | false => rfl
      | true => rw [(k1 hh).2] at h; cases h
    simp only [List.mem_cons, List.not_mem_nil, or_false] at hj
    rcases hj with rfl | rfl | rfl | rfl | rfl
    · have l1 := nc hL
      obtain ⟨l2, l3⟩ := nq1 l1
      obtain ⟨f, args, r1, r2⟩ := hcl o ho g x hC
      refine does_enter r1 (r2.mono ?_)
      rintro e' x' ⟨A, cp, rfl, p1, p2⟩
      refine ⟨_, rfl, hCs _ _ hC p2, .inr ⟨{ Gh.zero with a1 := A, c1 := cp }, by simp [mkS], ?_⟩⟩
      rw [setL_self, setL_ne (Ne.symm n1), setL_ne (Ne.symm n2), setL_ne (Ne.symm n3), setL_ne (Ne.symm n4), upd_self, upd_ne (Ne.symm n1), upd_ne (Ne.symm n2), upd_ne (Ne.symm n3), upd_ne (Ne.symm n4), l1, l2, l3]
      exact ⟨⟨(fun h => by cases h), (fun h => by cases h), (fun h => by cases h)⟩, fun _ _ => p1, fun h h' => bk_keep p2 (j2 l1 h'), (fun h => by cases h), (fun _ h => by cases h), fun _ => (j5 l3).below p2, (fun h => by cases h)⟩
    · have l1 := nm1 hL
      obtain ⟨l2, l3⟩ := nq1 l1
      refine does_value (hal1 o ho g x) ⟨hCs _ _ hC (new_below _ _), .inr ⟨{ Gh.zero with b := x.heap.size }, by simp [mkS, Ne.symm n1], ?_⟩⟩
      rw [setL_self, setL_ne n1, setL_ne (Ne.symm n5), setL_ne (Ne.symm n6), setL_ne (Ne.symm n7), upd_self, upd_ne n1, upd_ne (Ne.symm n5), upd_ne (Ne.symm n6), upd_ne (Ne.symm n7), l1, l2, l3]
      exact ⟨⟨(fun h => by cases h), (fun h => by cases h), (fun h => by cases h)⟩, fun _ h => owns_below (j1 l1 h) (new_below _ _), fun _ _ => bk_new _ _ rfl, (fun h => by cases h), (fun _ h => by cases h), fun _ => (j5 l3).below (new_below _ _), (fun h => by cases h)⟩
    · obtain ⟨lc, lm⟩ := d1 o ho hafter
      obtain ⟨l2, l3⟩ := nq1 hL
      have hown1 := j1 hL lc
      obtain ⟨v', x', r1, r2, r3⟩ := hap1 o ho g x hC hown1 (j2 hL lm)
      obtain ⟨gB, cap, rfl⟩ : ∃ gB cap, v' = .slice gB (n + 1) cap := own_slice r2
      have hgr : ∃ row, x.grownBy x' row ∧ ∀ r, row = some r → base ≤ r := by
        rcases r3 with ⟨h, -⟩ | ⟨h, -⟩
        · exact ⟨_, h, fun r e => by cases e⟩
        · exact ⟨_, h, fun r e => (hown1.lt r e).1⟩
      obtain ⟨rw', hg, hr⟩ := hgr
      refine does_value r1 ⟨hCg _ _ _ hC hg (fun r e => .inl (hr r e)), .inr ⟨{ Gh.zero with a1 := gB, c1 := cap }, by simp [mkS, Ne.symm n2, Ne.symm n5, n8], ?_⟩⟩
      rw [setL_self, setL_ne n2, setL_ne n5, setL_ne (Ne.symm n8), setL_ne (Ne.symm n9), upd_self, upd_ne n2, upd_ne n5, upd_ne (Ne.symm n8), upd_ne (Ne.symm n9), l2, l3]
      refine ⟨⟨fun _ => ⟨lc, lm⟩, (fun h => by cases h), (fun h => by cases h)⟩, (fun h => by cases h), (fun h => by cases h), fun _ => r2, (fun _ h => by cases h), fun _ => (j5 l3).kept fun r e => hg.block r ?_ ?_, (fun h => by cases h)⟩
      · have := hvb r e
        have := hCb _ hC
        omega
      · intro e'
        have := hr r e'.symm
        have := hvb r e
        omega
    · have l1 := d2 o ho hafter
      have l3 := nm2 hL
      refine does_value (hal2 o ho g x) ⟨hCs _ _ hC (new_below _ _), .inr ⟨{ Gh.zero with b := x.heap.size }, by simp [mkS, Ne.symm n3, Ne.symm n6], ?_⟩⟩
      rw [setL_self, setL_ne n3, setL_ne n6, setL_ne n8, setL_ne (Ne.symm n10), upd_self, upd_ne n3, upd_ne n6, upd_ne n8, upd_ne (Ne.symm n10), l1, l3]
      exact ⟨⟨fun _ => k1 l1, fun _ => rfl, (fun h => by cases h)⟩, (fun h => by cases h), (fun h => by cases h), fun _ => owns_below (j3 l1) (new_below _ _), fun _ _ => ⟨hCb _ hC, bk_new _ _ rfl⟩, fun _ => (j5 l3).below (new_below _ _), (fun h => by cases h)⟩
    · have lm := d3 o ho hafter
      have l1 := k2 lm
      obtain ⟨v', x', r1, r2, r3, r4⟩ := hap2 o ho g x hC (j5 hL) (j4 hL lm).2
      obtain ⟨gB, off, cap, cs, rfl, -⟩ := id r2
      have hown1 := j3 l1
      refine does_value r1 ⟨hCg _ _ _ hC r3 (fun r e => .inr e), .inr ⟨{ Gh.zero with a1 := some ⟨gB, off, none⟩, c1 := cap }, by simp [mkS, Ne.symm n4, Ne.symm n7, Ne.symm n9, Ne.symm n10], ?_⟩⟩
      rw [setL_self, setL_ne n4, setL_ne n7, setL_ne n9, setL_ne n10, upd_self, upd_ne n4, upd_ne n7, upd_ne n9, upd_ne n10, l1, lm]
      refine ⟨⟨fun _ => k1 l1, fun _ => rfl, fun _ => rfl⟩, (fun h => by cases h), (fun h => by cases h), fun _ => owns_kept hown1 fun r e => r3.block r ?_ ?_, (fun h => by cases h), (fun h => by cases h), fun _ => ⟨r2, ?_⟩⟩
      · exact (hown1.lt r e).2
      · intro e'
        have := (hown1.lt r e).1
        have := hvb r e'.symm
        omega
      · rcases r4 with h | h
        · exact .inl h
        · refine .inr ⟨_, h, hCb _ hC, fun e => ?_⟩
          have := (hown1.lt _ e.symm).2
          omega
  · rintro g x ⟨-, -, -, j3, -, -, j6⟩ hC hb0
    exact hend g x hC (j3 rfl) (j6 rfl).1 (j6 rfl).2
theorem exec_append_q {o : Oper} {a : Act} {x : World} (s y : Operand) (t e : TypeId) (i : TypeInfo) (z0 v : Value) (size bytes base n b : Nat) (xs ys : List Value) (tb : TypeId)
    (ho : o.op = .call { callee := .builtin .append, args := #[s, y], argTypes := #[t, t] }) (hs : a.eval s = v) (hy : a.eval y = .slice (some ⟨b, 0, none⟩) 1 1)
    (ht : P.underlying t = some (.slice e)) (hi : P.info? e = some i) (hz : i.zero = some z0) (hsize : i.size = size) (hby : i.bytes = bytes) (hzs : z0.cells.size = size)
    (hown : OwnQ x base e size v n xs) (hb : x.heap[b]? = some (.cells ys.toArray tb (0, 0))) (hl : ys.length = size) (h1 : ∀ u ∈ ys, u.oneCell' = true) (h63 : n + 1 ≤ maxLen) (hbytes : (n + 1) * bytes ≤ 140737488355328) (hbase : base ≤ x.heap.size) :
    ∃ v' x', (execOp a.eval o).run P x = .ok (.value v') x' ∧ OwnQ x' base e size v' (n + 1) (xs ++ ys) ∧ x.grownBy x' v.ownBlock ∧ (v'.ownBlock = v.ownBlock ∨ v'.ownBlock = some x.heap.size) := by
  obtain ⟨v', x', r1, r2, r3, r4⟩ := hown.append (P := P) t o.type ht hi hz hsize hby hzs ⟨b, 0, none⟩ 1 1 ys (by rw [hl, Nat.one_mul]) (fun j u hj => World.news_of_block hb j u (by simpa using hj)) h1 h63 hbytes hbase
  refine ⟨v', x', ?_, r2, r3, r4⟩
  unfold execOp
  simp only [ho, resolve, invoke, builtin, Sem.run_bind, Sem.run_pure, Result.andThen_ok, List.map_toArray, List.map_cons, List.map_nil, hs, hy, r1]
end
end Go.Proofs

set_option linter.unusedSimpArgs false
set_option linter.unusedVariables false
namespace Go.Proofs
open Go.RowKit
attribute [local go_sem] Oper.semAt_some

def encG (x : Fd (Nat × Nat)) : Array Value := #[.agg #[.int .i64 x.st.1, .int .i64 x.st.2, .slice x.A x.wd.length x.c]]
set_option maxRecDepth 100000 in
set_option maxHeartbeats 4000000 in
theorem search2_stops (n : Nat) (nx : Nat × Nat → Nat → Nat × Nat) (m : Nat) (b : Nat × Nat) (U : List (Nat × Nat)) (hbU : b ∈ U) (hU : ∀ s ∈ U, ∀ a, a < m → nx s a ∈ U) (hUl : U.length ≤ 100) (hm : m ≤ 100) (B1 B2 B3 g : Nat) (first caps : Array Value) (M : Nat → Prop) (w : World)
    (h1 : w.cell? ⟨B1, 0, none⟩ = some (.int .i64 b.1)) (h1b : w.cell? ⟨B1, 1, none⟩ = some (.int .i64 b.2)) (h2 : w.cell? ⟨B2, 0, none⟩ = some (.int .i64 m)) (h3 : w.cell? ⟨B3, 0, none⟩ = some (.func (.func g) first caps)) (hM1 : ¬ M B1) (hM2 : ¬ M B2) (hM3 : ¬ M B3) (hMw : ∀ k, M k → k < w.heap.size)
    (eg : ∀ args w, (callFunc g args).run Tryz.prog w = .ok (.enter g args) w)
    (hnx : ∀ s ∈ U, ∀ a, a < m → ∀ W, Lie M w W → Calls Tryz.prog g (first ++ #[.agg #[.int .i64 s.1, .int .i64 s.2], .int .i64 a] ++ caps) W fun e w' => e = .returned (.agg #[.int .i64 (nx s a).1, .int .i64 (nx s a).2]) ∧ Below W.heap.size W w') :
    StopsW Fence.wide n Tryz.prog 60 #[.pointer (some ⟨B1, 0, none⟩), .pointer (some ⟨B2, 0, none⟩), .pointer (some ⟨B3, 0, none⟩)] encG gvF M (fun pre x W => (pre ++ [x]).map Fd.key <+: bfsB nx m b U.length ∧ At 1 Nc W x.A x.wd)
      (fun xs => xs.map Fd.key = bfsB nx m b U.length) (fun pre => pre.map Fd.key <+: bfsB nx m b U.length) U.length w := by
  intro l J Jx W hW hlw hlW hJ hJx hY h0
  have hws := hW.size
  have g1 : W.cell? ⟨B1, 0, none⟩ = some (.int .i64 b.1) := (hW.cell (p := ⟨B1, 0, none⟩) (World.block_lt_of_cell? _ _ h1)).trans h1
  have g1b : W.cell? ⟨B1, 1, none⟩ = some (.int .i64 b.2) := (hW.cell (p := ⟨B1, 1, none⟩) (World.block_lt_of_cell? _ _ h1b)).trans h1b
  have hB1 : B1 < w.heap.size := World.block_lt_of_cell? _ _ h1
  have hB2 : B2 < w.heap.size := World.block_lt_of_cell? _ _ h2
  have hB3 : B3 < w.heap.size := World.block_lt_of_cell? _ _ h3
  have hmp0 : MapAt encP Value.bool (W.alloc (.map #[] 0)) W.heap.size ([] : List ((Nat × Nat) × Bool)) := ⟨#[], 0, World.alloc_heap_new W _, rfl⟩
  obtain ⟨ob, hrun0, hmp1⟩ := hmp0.update (t := 109) key77 Tryz.underlying109 b true
  have hrun0' : (Instr.mapUpdate 109 (.map (some W.heap.size)) (.agg #[.int .i64 b.1, .int .i64 b.2]) (.bool true)).run Tryz.prog (W.alloc (.map #[] 0)) = .ok () ((W.alloc (.map #[] 0)).putObj W.heap.size ob) := hrun0
  have hgr1 : W.grownBy ((W.alloc (.map #[] 0)).putObj W.heap.size ob) none := ⟨rfl, rfl, rfl, by simp, fun k hk _ => (World.putObj_heap_other (by omega)).trans (Below.heap_alloc W _ k hk)⟩
  have hs1 : ((W.alloc (.map #[] 0)).putObj W.heap.size ob).heap.size = W.heap.size + 1 := by simp
  have q1 : (W.alloc (.map #[] 0)).cell? ⟨B1, 0, none⟩ = some (.int .i64 b.1) := by rw [World.cell?_alloc_past _ _ _ (by omega)]; exact g1
  have q1b : (W.alloc (.map #[] 0)).cell? ⟨B1, 1, none⟩ = some (.int .i64 b.2) := by rw [World.cell?_alloc_past _ _ _ (by omega)]; exact g1b
  have hmk : (Instr.makeMap 109 none).run Tryz.prog W = .ok (.map (some W.heap.size)) (W.alloc (.map #[] 0)) := by kernel_rfl
  generalize (W.alloc (.map #[] 0)).putObj W.heap.size ob = w1 at *
  have r1 : w1.cell? ⟨B1, 0, none⟩ = some (.int .i64 b.1) := by
    rw [← g1]
    exact World.cell?_of_block (a := ⟨B1, 0, none⟩) (hgr1.block B1 (by omega) (by simp))
  have r1b : w1.cell? ⟨B1, 1, none⟩ = some (.int .i64 b.2) := by
    rw [← g1b]
    exact World.cell?_of_block (a := ⟨B1, 1, none⟩) (hgr1.block B1 (by omega) (by simp))
  have hg2 : W.grownBy (w1.alloc (.cells #[.int .i64 b.1, .int .i64 b.2, .slice none 0 0] 82)) none := ⟨hgr1.os, hgr1.tape, hgr1.output, by simp; omega, fun k hk _ => (Below.heap_alloc w1 _ k (by omega)).trans (hgr1.block k hk (by simp))⟩
  have hSR0 : SR W.heap.size M w J W.heap.size [] [Fd.mk b [] none 0] (fun _ => False) w1.heap.size (w1.alloc (.cells #[.int .i64 b.1, .int .i64 b.2, .slice none 0 0] 82)) := by
    refine ⟨fun y hy => ?_, fun y hy r hv => ?_, hJ _ _ _ _ _ h0 hg2 (fun r e => by cases e), fun r h => h.elim, ?_, ⟨hws, hg2.size⟩, ⟨Nat.le_refl _, by simp; omega⟩, ⟨by omega, by simp⟩, by omega, fun y hy => ?_⟩
    · rw [List.nil_append, List.mem_singleton] at hy
      subst hy
      intro k x hx
      simp at hx
    · rw [List.nil_append, List.mem_singleton] at hy
      subst hy
      obtain ⟨a, ha, -⟩ := hv
      cases ha
    · refine ⟨Nat.le_trans hws hg2.size, fun k hk hm => ?_⟩
      rw [hg2.block k (Nat.lt_of_lt_of_le hk hws) (by simp)]
      exact hW.block k hk
    · rw [List.nil_append, List.mem_singleton] at hy
      subst hy
      exact Nat.le_refl _
  have hSI0 : SI nx m b U.length encP (fun (s : Nat × Nat) => [.int .i64 s.1, .int .i64 s.2]) 82 3 W.heap.size M w J W.heap.size (.slice (some ⟨w1.heap.size, 0, none⟩) 1 1) U.length (w1.alloc (.cells #[.int .i64 b.1, .int .i64 b.2, .slice none 0 0] 82)) := by
    have hB : BInv nx m b [] [(b, [])] [b] m := by
      have h := BInv.begin nx m b
      exact ⟨h.seen, h.run, h.sorted, h.one, (fun p hp => by cases hp), (fun q hq => by
        simp at hq
        subst hq
        exact .inl ⟨rfl, rfl⟩), h.start⟩
    have hQ := OwnQ.made w1 82 3 [.int .i64 (b.1 : Int), .int .i64 (b.2 : Int), .slice none 0 0] rfl
    obtain ⟨g9, off9, cap9, cs9, e9, b9, r9⟩ := hQ
    refine ⟨[], [Fd.mk b [] none 0], [b], fun _ => False, w1.heap.size, hB, by simp, rfl, rfl, ⟨g9, off9, cap9, cs9, e9, by omega, r9⟩, hmp1.kept ?_ |> fun h => h, hSR0⟩
    exact Below.heap_alloc w1 _ _ (by omega)
  obtain ⟨SX, hSX⟩ : ∃ SX : Value → Nat → World → Prop, SX = fun v f wr => SI nx m b U.length encP (fun (s : Nat × Nat) => [.int .i64 s.1, .int .i64 s.2]) 82 3 W.heap.size M w J W.heap.size v f wr := ⟨_, rfl⟩
  have hSX1 : Hid (∀ v f wr, SX v f wr → SI nx m b U.length encP (fun (s : Nat × Nat) => [.int .i64 s.1, .int .i64 s.2]) 82 3 W.heap.size M w J W.heap.size v f wr) := by rw [hSX]; exact fun _ _ _ h => h
  have hSX2 : Hid (∀ v f wr, SI nx m b U.length encP (fun (s : Nat × Nat) => [.int .i64 s.1, .int .i64 s.2]) 82 3 W.heap.size M w J W.heap.size v f wr → SX v f wr) := by rw [hSX]; exact fun _ _ _ h => h
  rw [hs1] at hSI0
  have hSI0' := Lib.hid hSI0
  have hMl := Lib.hid hMw
  have hY' := Lib.hid hY
  have hJ' := Lib.hid hJ
  have hnx' := Lib.hid hnx
  have hU' := Lib.hid hU
  have hbU' := Lib.hid hbU
  have hM1' := Lib.hid hM1
  have hM2' := Lib.hid hM2
  have hM3' := Lib.hid hM3
  clear hSI0 hSR0 hmp0 hmp1 hrun0 hY hJ hJx hnx hU hbU hM1 hM2 hM3 h0 hMw
  refine callsIn_of_wp Tryz.func60 rfl trivial ?_
  simp only [Tryz.ntmps60, List.size_toArray, List.length_cons, List.length_nil, Nat.reduceAdd, Nat.reduceSub, Array.replicate_succ, Array.replicate_zero, List.push_toArray, List.append_toArray, List.nil_append, List.cons_append]
  gi_wp2_with fail
  gi_loopw [6] (fun v wr => ∃ f, SX v f wr) (fun v wr => leastOf fun f => SX v f wr)
  case atStart => exact ⟨U.length, hSX2.out _ _ _ hSI0'.out⟩
  case round =>
    clear hSI0' r1 q1 g1 r1b q1b g1b hrun0' hmk
    obtain ⟨f, hf⟩ : ∃ f, (leastOf fun f => SX u6 f wr) = f := ⟨_, rfl⟩
    have hls := (leastOf_spec hrel).1
    rw [hf] at hls
    have hf' := Lib.hid hf
    clear hf hrel
    obtain ⟨D, q, seen, T, vb, hbi, hlen, hL, hvb, hoq, hmp, hSR⟩ := hSX1.out _ _ _ hls
    clear hls
    cases q with
    | nil =>
      have hL2 : Hid (D.map Fd.key = bfsB nx m b U.length) := by
        unfold Hid
        rw [← hL]
        cases f <;> simp [bfs]
      have hjj := Lib.hid hSR.jj
      obtain ⟨g5, off, cap, cs5, rfl, -, -, -⟩ := hoq
      clear hbi hL hvb hmp hSR
      gi_wp2
      go_end0
      exact ⟨⟨_, rfl⟩, .inl ⟨D, T, hL2.out, hjj.out⟩⟩
    | cons x q =>
      have hfn : 0 < f := by
        have := hbi.len U hbU'.out hU'.out
        rw [List.length_append, List.length_map, List.length_map, List.length_cons] at this
        omega
      obtain ⟨f, rfl⟩ : ∃ f', f = f' + 1 := ⟨f - 1, by omega⟩
      have hL2 : (D ++ [x]).map Fd.key ++ bfs nx m f (push nx x.st x.wd seen (q.map Fd.key) m).1 (push nx x.st x.wd seen (q.map Fd.key) m).2 = bfsB nx m b U.length := by
        rw [← hL, List.map_append, List.append_assoc]
        rfl
      have hxU : x.st ∈ U := hbi.univ U hbU'.out hU'.out x.key (by simp)
      have hbt : BInv nx m b ((D ++ [x]).map Fd.key) (q.map Fd.key) seen 0 := by
        rw [List.map_append]
        exact hbi.take
      obtain ⟨g5, off, cap, cs5, rfl, -⟩ := id hoq
      have l0 : wr.cell? ⟨g5, off + 0, none⟩ = some (.int .i64 x.st.1) := hoq.cell 0 _ rfl
      have l0b : wr.cell? ⟨g5, off + 1, none⟩ = some (.int .i64 x.st.2) := hoq.cell 1 _ rfl
      have l1 : wr.cell? ⟨g5, off + 2, none⟩ = some (.slice x.A x.wd.length x.c) := hoq.cell 2 _ rfl
      rw [Nat.add_zero] at l0
      have hg5 : g5 < wr.heap.size := World.block_lt_of_cell? _ _ l0
      obtain ⟨wa, hwa⟩ : ∃ wa, wr.alloc (.cells #[.int .i64 x.st.1, .int .i64 x.st.2, .slice x.A x.wd.length x.c] 82) = wa := ⟨_, rfl⟩
      have hba : Below wr.heap.size wr wa := by rw [← hwa]; exact new_below _ _
      have hSRa := hSR.grow hJ'.out hba
      have hX : wa.heap[wr.heap.size]? = some (.cells #[.int .i64 x.st.1, .int .i64 x.st.2, .slice x.A x.wd.length x.c] 82 (0, 0)) := by rw [← hwa]; exact bk_new _ _ rfl
      obtain ⟨i70, z70, hi70, hz70, hi70s, hz70s, hi70b⟩ := info_of (t := 82) (n := 3) (b := 40) (by kernel_rfl)
      have hqn : q.length ≤ 1000 := by
        have := hbi.len U hbU'.out hU'.out
        rw [List.length_append, List.length_map, List.length_map, List.length_cons] at this
        omega
      obtain ⟨v', hcut, hoq', hvb'⟩ := (hoq.below hba).cut (P := Tryz.prog) (t := 110) Tryz.underlying110 hi70 hi70s (ys := qcs (fun (s : Nat × Nat) => [.int .i64 s.1, .int .i64 s.2]) x) (xs := q.flatMap (qcs (fun (s : Nat × Nat) => [.int .i64 s.1, .int .i64 s.2]))) rfl hqn
      obtain ⟨fn, tm, asg, bod, hy, hR⟩ := hY'.out D T x wa hSRa.jj (fun r hr => ⟨(hSRa.tt r hr).1, (hSRa.tt r hr).2.1⟩) (fun y hy r hr => (hSRa.qgv y (by
          rcases List.mem_append.1 hy with h | h
          · exact List.mem_append_left _ h
          · rw [List.mem_singleton] at h
            subst h
            simp) r hr).1) (by omega) ⟨⟨_, hL2⟩, hSRa.qat x (by simp)⟩
      have hcut' : (Instr.slice 110 (.slice (some ⟨g5, off, none⟩) (q.length + 1) cap) (some (.int .i64 1)) none none).run Tryz.prog wa = .ok v' wa := hcut
      have hy' : (Instr.yield l #[.agg #[.int .i64 x.st.1, .int .i64 x.st.2, .slice x.A x.wd.length x.c]]).run Tryz.prog wa = .ok (.round l fn tm asg bod) wa := hy
      have hR' := Lib.hid hR
      have hSR' := Lib.hid hSR
      have hSRa' := Lib.hid hSRa
      have hoq2 := Lib.hid hoq'
      have hvb2 := Lib.hid hvb'
      have hvb3 := Lib.hid hvb
      have hL2' := Lib.hid hL2
      have hbt' := Lib.hid hbt
      have hmp' := Lib.hid (hmp.below hba)
      have hxU' := Lib.hid hxU
      have hX' := Lib.hid hX
      have hlen' := Lib.hid hlen
      have hxl : Hid (x.wd.length ≤ D.length) := hSR.wl x (by simp)
      obtain ⟨s1, hs⟩ : ∃ s, x.st.1 = s := ⟨_, rfl⟩
      obtain ⟨s2, hs2⟩ : ∃ s, x.st.2 = s := ⟨_, rfl⟩
      obtain ⟨A, hA⟩ : ∃ A, x.A = A := ⟨_, rfl⟩
      obtain ⟨c, hc⟩ : ∃ c, x.c = c := ⟨_, rfl⟩
      obtain ⟨nw, hnw⟩ : ∃ nw, x.wd.length = nw := ⟨_, rfl⟩
      have hs' := Lib.hid hs
      have hs2' := Lib.hid hs2
      have hA' := Lib.hid hA
      have hc' := Lib.hid hc
      have hnw' := Lib.hid hnw
      rw [hs] at l0
      rw [hs2] at l0b
      rw [hA, hnw, hc] at l1
      rw [hs, hs2, hA, hnw, hc] at hwa hy'
      have hqI : (0 : Int) < ((q.length + 1 : Nat) : Int) := by omega
      rw [show (List.length (x :: q)) = q.length + 1 from rfl] at *
      clear hbi hlen hL hvb hoq hmp hSR hL2 hxU hbt hSRa hX hcut hoq' hvb' hy hR hs hs2 hA hc hnw
      generalize hQ : q.length = Q at hcut' hqI hqn ⊢
      have X0 := bk3 hX'.out
      rw [hs'.out, hs2'.out, hA'.out, hnw'.out, hc'.out] at X0
      gi_wp2_with fail
      clear hcut' hy' hqI X0 l0 l0b l1
      refine ⟨fun h => (by cases h), hR'.out.mono ?_⟩
      clear hR'
      rintro e w4 ⟨T', t1, t2, hli, (⟨rfl, hJ4⟩ | ⟨rfl, hJ4⟩)⟩
      · have hSR4 := hSRa'.out.take hlW hlw (fun k hk => by have := hMl.out k hk; omega) hli t1 t2 hJ4
        have hTw : ∀ r, T r → r < wr.heap.size := fun r h => (hSR'.out.tt r h).2.1
        have hwW : W.heap.size ≤ wr.heap.size := hSR'.out.bs.2
        have hbad : ∀ r, W.heap.size ≤ r → ¬ T r → ¬ (M r ∨ T r ∨ r = l) := fun r hr ht => by
          rintro (h | h | h)
          · have := hMl.out r h; omega
          · exact ht h
          · omega
        have hX4 : w4.heap[wr.heap.size]? = some (.cells #[.int .i64 s1, .int .i64 s2, .slice A nw c] 82 (0, 0)) := by
          have := hli.obj (k := wr.heap.size) (hbad _ hwW fun h => by have := hTw _ h; omega) hX'.out
          rwa [hs'.out, hs2'.out, hA'.out, hnw'.out, hc'.out] at this
        have hoq4 : OwnQ w4 W.heap.size 82 3 v' q.length (q.flatMap (qcs fun (s : Nat × Nat) => [.int .i64 s.1, .int .i64 s.2])) := hoq2.out.kept fun r hr => by
          rw [hvb2.out, hvb3.out] at hr
          cases hr
          have := hSRa'.out.vbb
          exact hli.same _ this.2 (hbad _ this.1 fun h => (hSRa'.out.tt _ h).2.2.2 rfl)
        have hmp4 : MapAt encP Value.bool w4 W.heap.size (seen.map fun s => (s, true)) := hmp'.out.kept (hli.same _ hSRa'.out.mbb.2 (hbad _ (Nat.le_refl _) fun h => (hSRa'.out.tt _ h).2.2.1 rfl))
        have hvb4 : v'.ownBlock = some vb := hvb2.out.trans hvb3.out
        have hXv : vb < wr.heap.size := hSR'.out.vbb.2
        have hXm : W.heap.size < wr.heap.size := hSR'.out.mbb.2
        have m4 : w4.cell? ⟨B2, 0, none⟩ = some (.int .i64 m) := hSR4.lie.cell hM2'.out h2
        have hB24 : B2 < w4.heap.size := World.block_lt_of_cell? _ _ m4
        obtain ⟨SY, hSY⟩ : ∃ SY : Value → Nat → World → Prop, SY = fun v k wi => SK nx m b U.length encP (fun (s : Nat × Nat) => [.int .i64 s.1, .int .i64 s.2]) 82 3 W.heap.size M w J W.heap.size D x T' f seen (q.map Fd.key) v k wi := ⟨_, rfl⟩
        have hSY1 : Hid (∀ v f wr, SY v f wr → SK nx m b U.length encP (fun (s : Nat × Nat) => [.int .i64 s.1, .int .i64 s.2]) 82 3 W.heap.size M w J W.heap.size D x T' f seen (q.map Fd.key) v f wr) := by rw [hSY]; exact fun _ _ _ h => h
        have hSY2 : Hid (∀ v f wr, SK nx m b U.length encP (fun (s : Nat × Nat) => [.int .i64 s.1, .int .i64 s.2]) 82 3 W.heap.size M w J W.heap.size D x T' f seen (q.map Fd.key) v f wr → SY v f wr) := by rw [hSY]; exact fun _ _ _ h => h
        have hSY0 : Hid (SY v' 0 w4) := hSY2.out _ _ _ ⟨q, seen, vb, hbt'.out, rfl, hvb4, hoq4, hmp4, hSR4⟩
        have hXne0 : ∀ r, v'.ownBlock = some r → wr.heap.size ≠ r := fun r hr => by
          rw [hvb4] at hr
          cases hr
          omega
        clear hSY hoq4 hmp4 hSR4 hbad hTw hli hJ4 t1 t2 hSRa' hSR' hoq2 hvb2 hvb3 hmp' hbt' hX' hvb4 hXv
        obtain ⟨X, hXe⟩ : ∃ X, wr.heap.size = X := ⟨_, rfl⟩
        rw [hXe] at hX4 hXne0 hXm ⊢
        gi_wp2_with fail
        gi_loopw [29, 6] (fun kk v wi => ∃ k : Nat, k ≤ m ∧ kk = .int .i64 k ∧ Hid (SY v k wi) ∧ wi.heap[X]? = some (.cells #[.int .i64 s1, .int .i64 s2, .slice A nw c] 82 (0, 0)) ∧ Hid (∀ r, v.ownBlock = some r → X ≠ r))
          (fun kk _ _ => m - (intOf kk).toNat)
        case atStart => exact ⟨0, Nat.zero_le _, rfl, hSY0, hX4, hXne0⟩
        case round =>
          clear hSY0 hX4 hXne0 m4 hB24
          obtain ⟨k, hk, rfl, hsy, hXi, hXne⟩ := hrel
          obtain ⟨q1, seen1, vb1, hbi, hpu, hvb1, hoq1, hmp1, hSRi⟩ := hSY1.out _ _ _ hsy.out
          by_cases hlt : k < m
          · have m3 : wr.cell? ⟨B3, 0, none⟩ = some (.func (.func g) first caps) := hSRi.lie.cell hM3'.out h3
            have hB3r : B3 < wr.heap.size := World.block_lt_of_cell? _ _ m3
            have hCn := hnx'.out x.st hxU'.out k hlt wr hSRi.lie
            obtain ⟨⟨t1, t2⟩, ht⟩ : ∃ t, nx x.st k = t := ⟨_, rfl⟩
            rw [ht, hs'.out, hs2'.out] at hCn
            have hCn' := Lib.hid hCn
            have hkI : (k : Int) < (m : Int) := by omega
            have hkw : IntKind.i64.wrap ((k : Int) + 1) = ((k + 1 : Nat) : Int) := by
              rw [Int.natCast_add]
              exact IntWalk.i64_in _ (by omega)
            have Xi := bk3 hXi
            have hXr := bk_size hXi
            have hbi' := Lib.hid hbi
            have hpu' := Lib.hid hpu
            have hvb1' := Lib.hid hvb1
            have hoq1' := Lib.hid hoq1
            have hmp1' := Lib.hid hmp1
            have hSRi' := Lib.hid hSRi
            have hXi' := Lib.hid hXi
            by_cases hin : (t1, t2) ∈ seen1
            · have hin' := Lib.hid hin
              clear hbi hpu hvb1 hoq1 hmp1 hSRi hXi hsy hCn hin
              gi_wp2_with (refine wpListIn_callv (ts := #[77, 3]) (g := g) (first := first) (caps := caps) (X := .agg #[.int .i64 s1, .int .i64 s2]) (Y := .int .i64 k) (v := .agg #[.int .i64 t1, .int .i64 t2]) (R := fun w' => Below wr.heap.size wr w') (by with_reducible rfl) (.tmp 32) (.tmp 34) (.tmp 35) (by with_reducible rfl) (by rfl) (by rfl) (by rfl) eg (fun _ => trivial) (fun h => (by cases h)) (callsIn_wide.2 hCn'.out) ?_; intro w5 hb5'; have hb5 : Below wr.heap.size wr (w5.alloc (.cells #[.int .i64 t1, .int .i64 t2] 77)) := via hb5' (new_below _ _); have hlk : (Instr.lookup 109 (.map (some W.heap.size)) (.agg #[.int .i64 t1, .int .i64 t2]) false).run Tryz.prog (w5.alloc (.cells #[.int .i64 t1, .int .i64 t2] 77)) = .ok (.bool true) (w5.alloc (.cells #[.int .i64 t1, .int .i64 t2] 77)) := (by have := (hmp1'.out.below hb5).look (t := 109) key77 Tryz.underlying109 (z := .bool false) (by kernel_rfl) (t1, t2) false; rw [lkM_set, if_pos hin'.out] at this; exact this))
              go_roundw
              case rel =>
                have hc5 : push nx x.st x.wd seen (q.map Fd.key) (k + 1) = (seen1, q1.map Fd.key) := by
                  unfold Go.Proofs.push
                  rw [hpu'.out]
                  dsimp only
                  rw [ht, if_pos (by simpa using hin'.out)]
                have hst : BInv nx m b ((D ++ [x]).map Fd.key) (q1.map Fd.key) seen1 (k + 1) := by
                  rw [List.map_append] at hbi' ⊢
                  exact (hbi'.out.step hlt).1 (by rw [show nx (Fd.key x).1 k = (t1, t2) from ht]; simpa using hin'.out)
                exact ⟨k + 1, by omega, by go_num, hSY2.out _ _ _ ⟨q1, seen1, vb1, hst, hc5, hvb1'.out, hoq1'.out.below hb5, hmp1'.out.below hb5, hSRi'.out.grow hJ'.out hb5⟩, bk_keep hb5 hXi'.out, hXne⟩
              case measure => simp [intOf]; omega
            · have hin' := Lib.hid hin
              have hnw4 : nw ≤ 1000 := by
                have h1 := hxl.out
                rw [hnw'.out] at h1
                have h2 := hlen'.out
                omega
              have hq4 : q1.length ≤ 1000 := by
                have := hbi.len U hbU'.out hU'.out
                rw [List.length_append, List.length_map, List.length_map] at this
                omega
              clear hbi hpu hvb1 hoq1 hmp1 hSRi hXi hsy hCn hin
              obtain ⟨i3, z3, hi3, hz3, hi3s, hz3s, hi3b⟩ := info_of (t := 3) (n := 1) (b := 8) (by kernel_rfl)
              obtain ⟨i70, z70, hi70, hz70, hi70s, hz70s, hi70b⟩ := info_of (t := 82) (n := 3) (b := 40) (by kernel_rfl)
              gi_wp2_with (first
                | (refine wpListIn_callv (ts := #[77, 3]) (g := g) (first := first) (caps := caps) (X := .agg #[.int .i64 s1, .int .i64 s2]) (Y := .int .i64 k) (v := .agg #[.int .i64 t1, .int .i64 t2]) (R := fun w' => Below wr.heap.size wr w') (by with_reducible rfl) (.tmp 32) (.tmp 34) (.tmp 35) (by with_reducible rfl) (by rfl) (by rfl) (by rfl) eg (fun _ => trivial) (fun h => (by cases h)) (callsIn_wide.2 hCn'.out) ?_
                   intro w5 hb5'
                   have hb5 : Below wr.heap.size wr (w5.alloc (.cells #[.int .i64 t1, .int .i64 t2] 77)) := via hb5' (new_below _ _)
                   have hYn : (w5.alloc (.cells #[.int .i64 t1, .int .i64 t2] 77)).heap[w5.heap.size]? = some (.cells #[.int .i64 t1, .int .i64 t2] 77 (0, 0)) := bk_new _ _ rfl
                   obtain ⟨wy, hwy⟩ : ∃ wy, w5.alloc (.cells #[.int .i64 t1, .int .i64 t2] 77) = wy := ⟨_, rfl⟩
                   obtain ⟨Y, hY5⟩ : ∃ Y, w5.heap.size = Y := ⟨_, rfl⟩
                   rw [hwy] at hb5 hYn
                   have hYx := hb5'.size
                   rw [hY5] at hYn hYx
                   have hmp5 := hmp1'.out.below hb5
                   have hlk : (Instr.lookup 109 (.map (some W.heap.size)) (.agg #[.int .i64 t1, .int .i64 t2]) false).run Tryz.prog wy = .ok (.bool false) wy := (by have := hmp5.look (t := 109) key77 Tryz.underlying109 (z := .bool false) (by kernel_rfl) (t1, t2) false; rw [lkM_set, if_neg hin'.out] at this; exact this)
                   obtain ⟨o5, hup, hmp6⟩ := hmp5.update (t := 109) key77 Tryz.underlying109 (t1, t2) true
                   have hup' : (Instr.mapUpdate 109 (.map (some W.heap.size)) (.agg #[.int .i64 t1, .int .i64 t2]) (.bool true)).run Tryz.prog wy = .ok () (wy.putObj W.heap.size o5) := hup
                   have hg6 := grownBy_putObj' wy W.heap.size o5
                   have hmp6' := Lib.hid hmp6
                   clear hmp6 hup hmp5
                   obtain ⟨w6, hw6⟩ : ∃ w6, wy.putObj W.heap.size o5 = w6 := ⟨_, rfl⟩
                   rw [hw6] at hup' hg6 hmp6'
                   have hSR6 := (hSRi'.out.grow hJ'.out hb5).row hJ'.out hg6 (fun r e => by cases e; exact .inl rfl)
                   have X6 : w6.heap[X]? = some (.cells #[.int .i64 s1, .int .i64 s2, .slice A nw c] 82 (0, 0)) := (by rw [hg6.block X (bk_size (bk_keep hb5 hXi'.out)) (by intro e; injection e with e; omega)]; exact bk_keep hb5 hXi'.out)
                   have hmY : W.heap.size < wr.heap.size := hSRi'.out.mbb.2
                   have Y6 : w6.heap[Y]? = some (.cells #[.int .i64 t1, .int .i64 t2] 77 (0, 0)) := (by rw [hg6.block Y (bk_size hYn) (by intro e; injection e with e; omega)]; exact hYn)
                   have Y5 := bk2 hYn
                   clear hw6))
              have hvb6 := hSR6.vbb
              have hu6 := hvb1'.out
              have hvX : vb1 ≠ X := fun e => hXne.out vb1 hu6 e.symm
              have hvY : vb1 ≠ Y := by
                have := hSRi'.out.vbb.2
                omega
              have hoq6 : OwnQ w6 W.heap.size 82 3 u6 q1.length (q1.flatMap (qcs fun (s : Nat × Nat) => [.int .i64 s.1, .int .i64 s.2])) := (hoq1'.out.below hb5).kept fun r hr => hg6.block r (by
                rw [hu6] at hr
                cases hr
                have := hSRi'.out.vbb.2
                have := hb5.size
                omega) (by
                rw [hu6] at hr
                cases hr
                intro e
                injection e with e
                exact hSRi'.out.ne e)
              refine wpIn_wide.2 ?_
              refine region_last 11 _ (by kernel_rfl) rfl rfl (by kernel_rfl) (by kernel_rfl) (by kernel_rfl) (by kernel_rfl) ?_
              simp only [List.take_succ_cons, List.take_zero]
              apply any_cmqmq { w6 with heap := #[] } (fun y => w6.grownBy y (some vb1)) 4 6 7 9 10 nw q1.length w6.heap.size 3 1 (x.wd.flatMap Nc) [.int .i64 (k : Int)] (.cells #[.int .i64 (k : Int)] 3 (0, 0)) (fun h => .cells #[.int .i64 (t1 : Int), .int .i64 (t2 : Int), .slice h.a1 (nw + 1) h.c1] 82 (0, 0)) (fun h => [.int .i64 (t1 : Int), .int .i64 (t2 : Int), .slice h.a1 (nw + 1) h.c1]) W.heap.size 82 3 u6 (q1.flatMap (qcs fun (s : Nat × Nat) => [.int .i64 s.1, .int .i64 s.2]))
              case hB => kernel_rfl
              case hB' => intro g; kernel_rfl
              case hS => kernel_rfl
              case hN => kernel_rfl
              case hne => decide
              case hd1 =>
                intro L hcl
                refine ⟨fun o ho hL => ?_, fun o ho hL => ?_, fun o ho hL => ?_⟩
                all_goals
                  simp only [List.getElem?_cons_succ, List.getElem?_cons_zero, Option.some.injEq] at ho
                  subst ho
                · exact ⟨hL ⟨4, .data⟩ (by simp) rfl, hL ⟨6, .data⟩ (by simp) rfl⟩
                · exact hcl 8 _ rfl (hL ⟨8, .data⟩ (by simp) rfl) ⟨7, .data⟩ (by simp) rfl
                · exact hL ⟨9, .data⟩ (by simp) rfl
              case hC0 => exact ⟨rfl, rfl, rfl, Nat.le_refl _, fun _ _ _ => rfl⟩
              case hCs => exact fun y y' h hb => ⟨hb.os.trans h.os, hb.tape.trans h.tape, hb.output.trans h.output, Nat.le_trans h.size hb.size, fun r hr hn => (hb.block r (Nat.lt_of_lt_of_le hr h.size)).trans (h.block r hr hn)⟩
              case hCw => exact fun y h => ⟨h.os, h.tape, h.output, Nat.zero_le _, fun r hr => absurd hr (Nat.not_lt_zero _)⟩
              case hCg =>
                intro y y' row h hg hr
                refine ⟨hg.os.trans h.os, hg.tape.trans h.tape, hg.output.trans h.output, Nat.le_trans h.size hg.size, fun r hr2 hn => (hg.block r (Nat.lt_of_lt_of_le hr2 h.size) fun e => ?_).trans (h.block r hr2 hn)⟩
                rcases hr r e.symm with h2 | h2
                · omega
                · rw [hu6] at h2
                  exact hn h2.symm
              case hvb =>
                intro r hr
                rw [hu6] at hr
                cases hr
                exact hvb6.2
              case hCb => exact fun y h => h.size
              case hown => exact hoq6
              case hq =>
                intro g y hC hgc hbx hbX
                have X7 : y.heap[X]? = some (.cells #[.int .i64 s1, .int .i64 s2, .slice A nw c] 82 (0, 0)) := by
                  rw [hC.block X (bk_size X6) (fun e => by injection e with e; exact hvX e.symm)]
                  exact X6
                have Y7 : y.heap[Y]? = some (.cells #[.int .i64 t1, .int .i64 t2] 77 (0, 0)) := by
                  rw [hC.block Y (bk_size Y6) (fun e => by injection e with e; exact hvY e.symm)]
                  exact Y6
                have x7 := bk3 X7
                have y7 := bk2 Y7
                have hx7 := bk_size X7
                have hy7 := bk_size Y7
                simp only [mixL, mkS, yieldsC, List.contains_cons, List.contains_nil, Nat.reduceAdd, Nat.reduceBEq, Nat.reduceEqDiff, Nat.zero_add, Bool.or_false, Bool.or_true, Bool.false_or, Bool.true_or, Bool.false_eq_true, if_true, if_false, Bool.or_self]
                repeat (go_big_quiet_step (fail))
                exact wpQuiet_nil rfl
              case hind => intro j hj; simp only [List.mem_cons, List.not_mem_nil, or_false] at hj; rcases hj with rfl | rfl | rfl | rfl | rfl <;> (intro g h; kernel_rfl)
              case hcl =>
                intro o ho g y hC
                simp only [List.getElem?_cons_succ, List.getElem?_cons_zero, Option.some.injEq] at ho
                subst ho
                have haty : At 1 Nc y x.A x.wd := (hSR6.qat x (by simp)).kept fun a ha => hC.block _ (hSR6.qgv x (by simp) a.block ⟨a, ha, rfl⟩).2.1 fun e => by
                  injection e with e
                  exact (hSR6.qgv x (by simp) a.block ⟨a, ha, rfl⟩).2.2.2.1 e
                have hC9 := cloneInts_any x.A x.wd x.c y (by rw [hnw'.out]; exact hnw4) haty
                rw [hA'.out, hnw'.out, hc'.out] at hC9
                refine ⟨59, #[.slice A nw c], by kernel_rfl, hC9.mono ?_⟩
                rintro e y' ⟨v', rfl, h5, h6⟩
                obtain ⟨A', c', rfl⟩ := own_slice h5
                exact ⟨A', c', rfl, owns_base h5 hC.size, h6⟩
              case hal1 =>
                intro o ho g y
                simp only [List.getElem?_cons_succ, List.getElem?_cons_zero, Option.some.injEq] at ho
                subst ho
                kernel_rfl
              case hap1 =>
                intro o ho g y hC hown hz
                simp only [List.getElem?_cons_succ, List.getElem?_cons_zero, Option.some.injEq] at ho
                subst ho
                exact exec_append_at (.tmp 47) (.tmp 49) 26 3 i3 z3 _ 1 8 w6.heap.size nw _ _ _ 3 rfl (by kernel_rfl) (by kernel_rfl) Tryz.underlying26 hi3 hz3 hi3s hi3b hz3s (by decide) hown hz rfl (by intro u hu; simp at hu; subst hu; rfl) (by unfold maxLen; omega) (by omega) hC.size
              case hal2 =>
                intro o ho g y
                simp only [List.getElem?_cons_succ, List.getElem?_cons_zero, Option.some.injEq] at ho
                subst ho
                kernel_rfl
              case hap2 =>
                intro o ho g y hC hown hz
                simp only [List.getElem?_cons_succ, List.getElem?_cons_zero, Option.some.injEq] at ho
                subst ho
                exact exec_append_q (.tmp 43) (.tmp 52) 110 82 i70 z70 _ 3 40 W.heap.size q1.length _ _ _ 82 rfl (by kernel_rfl) (by kernel_rfl) Tryz.underlying110 hi70 hz70 hi70s hi70b hz70s hown hz rfl (by intro u hu; simp at hu; rcases hu with rfl | rfl | rfl <;> rfl) (by unfold maxLen; omega) (by omega) (Nat.le_trans hSR6.bs.2 hC.size)
              case hend =>
                intro g y hC h9 h11 hor
                dsimp only
                go_wp2
                gi_wp2_with fail
                go_roundw
                case rel =>
                  obtain ⟨vb2, hv53, -, hvb2s⟩ := h11.block
                  rw [hu6, hv53] at hor
                  have hvor : vb2 = vb1 ∨ w6.heap.size ≤ vb2 := by
                    rcases hor with h | ⟨r, h, h', -⟩
                    · injection h with h; exact .inl h
                    · injection h with h; exact .inr (h ▸ h')
                  have hst : BInv nx m b ((D ++ [x]).map Fd.key) ((q1 ++ [Fd.mk (t1, t2) (x.wd ++ [k]) (g 7).a1 (g 7).c1]).map Fd.key) (seen1 ++ [(t1, t2)]) (k + 1) := by
                    have h5 := hbi'.out
                    rw [List.map_append] at h5 ⊢
                    have := (h5.step hlt).2 (by
                      rw [show nx (Fd.key x).1 k = (t1, t2) from ht]
                      simpa using hin'.out)
                    rw [show nx (Fd.key x).1 k = (t1, t2) from ht] at this
                    rw [List.map_append]
                    exact this
                  have hc5 : push nx x.st x.wd seen (q.map Fd.key) (k + 1) = (seen1 ++ [(t1, t2)], (q1 ++ [Fd.mk (t1, t2) (x.wd ++ [k]) (g 7).a1 (g 7).c1]).map Fd.key) := by
                    unfold Go.Proofs.push
                    rw [hpu'.out]
                    dsimp only
                    rw [ht, if_neg (by simpa using hin'.out), List.map_append]
                    rfl
                  have hay : At 1 Nc y (g 7).a1 (x.wd ++ [k]) := by
                    have h1 : y.ownsRow w6.heap.size 3 1 (.slice (g 7).a1 (nw + 1) (g 7).c1) (x.wd ++ [k]).length ((x.wd ++ [k]).flatMap Nc) := by
                      rw [List.length_append, hnw'.out, List.flatMap_append]
                      exact h9
                    obtain ⟨A', c', e', h2⟩ := at_of_owns (cs := Nc) (sz := 1) (fun _ => rfl) h1
                    injection e' with e1 _ _
                    rw [← e1] at h2
                    exact h2
                  have hoq12 : OwnQ y W.heap.size 82 3 (.slice (g 10).a1 (q1.length + 1) (g 10).c1) (q1 ++ [Fd.mk (t1, t2) (x.wd ++ [k]) (g 7).a1 (g 7).c1]).length ((q1 ++ [Fd.mk (t1, t2) (x.wd ++ [k]) (g 7).a1 (g 7).c1]).flatMap (qcs fun (s : Nat × Nat) => [.int .i64 s.1, .int .i64 s.2])) := by
                    rw [List.length_append, List.flatMap_append]
                    have : ([Fd.mk (t1, t2) (x.wd ++ [k]) (g 7).a1 (g 7).c1] : List (Fd (Nat × Nat))).flatMap (qcs fun (s : Nat × Nat) => [.int .i64 s.1, .int .i64 s.2]) = [.int .i64 (t1 : Int), .int .i64 (t2 : Int), .slice (g 7).a1 (nw + 1) (g 7).c1] := by
                      simp [qcs, hnw'.out]
                    rw [this]
                    exact h11
                  have hmp12 : MapAt encP Value.bool y W.heap.size ((seen1 ++ [(t1, t2)]).map fun s => (s, true)) := by
                    rw [← setM_set _ _ hin'.out]
                    refine hmp6'.out.kept (hC.block _ hSR6.mbb.2 fun e => ?_)
                    injection e with e
                    exact hSR6.ne e.symm
                  have hX12 : y.heap[X]? = some (.cells #[.int .i64 s1, .int .i64 s2, .slice A nw c] 82 (0, 0)) := by
                    rw [hC.block X (bk_size X6) (fun e => by injection e with e; exact hvX e.symm)]
                    exact X6
                  have hSR11 := hSR6.push2 (y := Fd.mk (t1, t2) (x.wd ++ [k]) (g 7).a1 (g 7).c1) hJ'.out hC hay (fun r ⟨a, ha, hr⟩ => by
                    have hob : (Value.slice (g 7).a1 (nw + 1) (g 7).c1).ownBlock = some r := by
                      rw [show (g 7).a1 = some a from ha]
                      rw [← hr]
                      rfl
                    have h8 := h9.lt r hob
                    refine ⟨h8.1, h8.2, fun e => ?_⟩
                    rcases hor with h | ⟨r2, h, h', h''⟩
                    · injection h with h
                      omega
                    · injection h with h
                      rw [hob] at h''
                      exact h'' (by rw [← h, e])) hvor hvb2s (by
                    have h1 := hxl.out
                    rw [List.length_append, List.length_append]
                    simp only [List.length_cons, List.length_nil]
                    omega)
                  refine ⟨k + 1, by omega, by go_num, hSY2.out _ _ _ ⟨_, _, vb2, hst, hc5, hv53, hoq12, hmp12, hSR11⟩, hX12, fun r hr => ?_⟩
                  rw [hv53] at hr
                  cases hr
                  rcases hvor with rfl | h
                  · exact fun e => hvX e.symm
                  · have := bk_size X6
                    omega
                case measure => simp [intOf]; omega
          · have hkm : k = m := by omega
            subst hkm
            have hnew : Hid (SX u6 f wr) := by
              refine hSX2.out _ _ _ ⟨D ++ [x], q1, seen1, T', vb1, hbi, ?_, ?_, hvb1, hoq1, hmp1, hSRi⟩
              · have := hlen'.out
                rw [List.length_append, List.length_singleton]
                omega
              · have := hL2'.out
                rw [hpu] at this
                exact this
            have hkI : ¬ (k : Int) < (k : Int) := by omega
            clear hbi hpu hvb1 hoq1 hmp1 hSRi hsy hXi hXne
            gi_wp2_with fail
            refine ⟨⟨f, hnew.out⟩, ?_⟩
            have h5 := hf'.out
            rw [hQ] at h5
            rw [h5]
            exact Nat.lt_succ_of_le ((leastOf_spec (p := fun f => SX u6 f wr) ⟨f, hnew.out⟩).2 f hnew.out)
      · have hJ5' := Lib.hid hJ4
        clear hli hJ4
        gi_wp2
        refine bodyPost_ret (results_none rfl _ _ _) rfl ?_
        exact ⟨⟨_, rfl⟩, .inr ⟨_, _, ⟨_, hL2'.out⟩, hJ5'.out⟩⟩
end Go.Proofs
