import Derived.Test.YtpmliaildjomeaaGreatDoorProg
import Derived.WalkKit
import Derived.Handy
import Derived.WalkLawsBesides
import Derived.WalkSpells
import Derived.Lib.ConvBytes
import Derived.Lib.Hide
import Derived.StillTail
import Derived.Deep.Quiet
import Derived.BigQuiet
import Derived.Below
set_option linter.unusedSimpArgs false
set_option linter.unusedVariables false
namespace Go.Proofs
open Go.RowKit

theorem ret_int {k : IntKind} {a b : Int} (h : a = b) : Ending.returned (.int k a) = .returned (.int k b) := by rw [h]

theorem floor_neg (n b : Int) (hb : 0 < b) (h : n.tmod b < 0) : n.tdiv b - 1 = n / b := by
  have h1 := Int.mul_tdiv_add_tmod n b
  have h2 : -b < n.tmod b := by have := Int.lt_tmod_of_pos n hb; omega
  rw [eq_comm]
  have : n = b * (n.tdiv b - 1) + (n.tmod b + b) := by rw [Int.mul_sub]; omega
  rw [this, Int.mul_add_ediv_left _ _ (by omega), Int.ediv_eq_zero_of_lt (by omega) (by omega)]
  rw [← this]; omega
theorem floor_pos (n b : Int) (hb : 0 < b) (h : 0 ≤ n.tmod b) : n.tdiv b = n / b := by
  have h1 := Int.mul_tdiv_add_tmod n b
  have h2 := Int.tmod_lt_of_pos n hb
  rw [eq_comm]
  have : n = b * (n.tdiv b) + (n.tmod b) := by omega
  rw [this, Int.mul_add_ediv_left _ _ (by omega), Int.ediv_eq_zero_of_lt (by omega) (by omega)]
  rw [← this]; omega
theorem ediv_bd (n b M : Int) (hb : 0 < b) (h1 : -M ≤ n) (h2 : n ≤ M) (hM : 0 ≤ M) : -M ≤ n / b ∧ n / b ≤ M := by
  constructor
  · refine (Int.le_ediv_iff_mul_le hb).2 ?_
    have : -M * b ≤ -M * 1 := Int.mul_le_mul_of_nonpos_left (by omega) (by omega)
    omega
  · have h3 : n / b ≤ M / b := Int.ediv_le_ediv hb h2
    have h4 := Int.ediv_le_self b hM
    omega

def letter (c : Int) : Bool := (decide (97 ≤ c) && decide (c ≤ 122)) || (decide (65 ≤ c) && decide (c ≤ 90))
def charOk (i : Nat) (c : Int) : Bool := letter c || (decide (i ≠ 0) && (decide (c = 45) || (decide (48 ≤ c) && decide (c ≤ 57))))
def charsOk (l : List UInt8) : Bool := (List.range l.length).all fun i => charOk i ((l.getD i 0).toNat : Int)
def nameB (l : List UInt8) : Bool := decide (1 ≤ l.length) && decide (l.length ≤ 12) && charsOk l

theorem charsOk_of (l : List UInt8) (h : ∀ j, j < l.length → charOk j ((l.getD j 0).toNat : Int) = true) : charsOk l = true := by
  unfold charsOk; rw [List.all_eq_true]; intro j hj; exact h j (List.mem_range.1 hj)
theorem charsOk_not (l : List UInt8) (j : Nat) (hj : j < l.length) (h : charOk j ((l.getD j 0).toNat : Int) = false) : charsOk l = false := by
  unfold charsOk; rw [List.all_eq_false]; exact ⟨j, List.mem_range.2 hj, by rw [h]; decide⟩

theorem chars_more {l : List UInt8} {k : Nat} {c : UInt8} (h : Hid (∀ j, j < k → charOk j ((l.getD j 0).toNat : Int) = true)) (hc : Hid (l.getD k 0 = c)) (h2 : charOk k (c.toNat : Int) = true) :
    Hid (∀ j, j < k + 1 → charOk j ((l.getD j 0).toNat : Int) = true) := by
  intro j hj
  by_cases e : j = k
  · subst e; rw [hc.out]; exact h2
  · exact h.out j (by omega)
theorem name_not {l : List UInt8} {k n : Nat} {c : UInt8} (hl : Hid (l.length = n)) (hk : k < n) (hc : Hid (l.getD k 0 = c)) (h2 : charOk k (c.toNat : Int) = false) : nameB l = false := by
  unfold nameB; rw [charsOk_not l k (by rw [hl.out]; exact hk) (by rw [hc.out]; exact h2)]; simp
theorem ok_is (k : Nat) (c : Int) (h : (97 ≤ c ∧ c ≤ 122) ∨ (65 ≤ c ∧ c ≤ 90) ∨ (k ≠ 0 ∧ (c = 45 ∨ (48 ≤ c ∧ c ≤ 57)))) : charOk k c = true := by
  unfold charOk letter; simp only [Bool.or_eq_true, Bool.and_eq_true, decide_eq_true_eq]; omega
theorem ok_not (k : Nat) (c : Int) (h : ¬ ((97 ≤ c ∧ c ≤ 122) ∨ (65 ≤ c ∧ c ≤ 90) ∨ (k ≠ 0 ∧ (c = 45 ∨ (48 ≤ c ∧ c ≤ 57))))) : charOk k c = false := by
  rw [← Bool.not_eq_true]; unfold charOk letter; simp only [Bool.or_eq_true, Bool.and_eq_true, decide_eq_true_eq]; omega
theorem name_end (l : List UInt8) (n : Nat) (hl : l.length = n) (hcs : charsOk l = true) : nameB l = (!l.isEmpty && decide ((n : Int) ≤ 12)) := by
  unfold nameB; rw [hcs, Bool.and_true, ← hl]; cases l <;> simp; omega
theorem ret_bool {a b : Bool} (h : a = b) : Ending.returned (.bool a) = .returned (.bool b) := by rw [h]

set_option maxRecDepth 100000 in
set_option maxHeartbeats 1000000 in
theorem isName_any (s : ByteArray) (w : World) (hs : s.size ≤ 9223372036854775807) :
    Calls Tryz.prog 29 #[.string s] w fun e w' => e = .returned (.bool (nameB s.data.toList)) ∧ Below w.heap.size w w' := by
  have hconv := fun W : World => Lib.run_convert_string_bytes (P := Tryz.prog) W 9 91 5 s Tryz.underlying9 Tryz.underlying91 Tryz.underlying5
  have hB : Hid (Below w.heap.size w (Lib.bytesWorld w 5 s)) := ⟨rfl, rfl, rfl, by rw [Lib.bytesWorld_size]; omega, fun k hk => Lib.bytesWorld_at_old w 5 s k hk⟩
  have hlen : Hid (s.data.toList.length = s.size) := by simp [Hid]
  go_enter Tryz.func29, Tryz.ntmps29
  go_wp2
  clear hconv
  go_loop [9] (fun i => ∃ k : Nat, k ≤ s.size ∧ i = .int .i64 k ∧ Hid (∀ j, j < k → charOk j ((s.data.toList.getD j 0).toNat : Int) = true)) (fun i => s.size - (intOf i).toNat)
  case atStart => exact ⟨0, Nat.zero_le _, rfl, fun j hj => by omega⟩
  case round =>
    obtain ⟨k, hk, rfl, hok⟩ := hrel
    by_cases hlt : k < s.size
    · obtain ⟨c, hc⟩ : ∃ c : UInt8, s.data.toList.getD k 0 = c := ⟨_, rfl⟩
      have hcell := Lib.bytesWorld_cell w 5 s k hlt
      rw [hc] at hcell
      have hc' := Lib.hid hc
      clear hc
      have hb0 : (0 : Int) ≤ (c.toNat : Int) := by omega
      go_wp2
      all_goals first
        | (exfalso; simp at *; omega)
        | (go_round
           case rel => exact ⟨k + 1, by omega, by go_num, chars_more hok hc' (ok_is _ _ (by simp at *; omega))⟩
           case measure => simp [intOf]; omega)
        | (go_ret; exact ⟨ret_bool (name_not (k := k) hlen hlt hc' (ok_not _ _ (by simp at *; omega))).symm, hB.out⟩)
    · have hkk : k = s.size := by omega
      subst hkk
      by_cases he : s.toList = []
      all_goals
        go_wp2
        go_ret
        refine ⟨ret_bool ?_, hB.out⟩
        have hcs : charsOk s.data.toList = true := charsOk_of _ (fun j hj => hok.out j (by rw [hlen.out] at hj; exact hj))
        rw [name_end _ _ hlen.out hcs, ← ByteArray.toList_eq] <;> simp [he]
end Go.Proofs

set_option linter.unusedSimpArgs false
set_option linter.unusedVariables false
namespace Go.Proofs
open Go.RowKit
section
variable {P : Program} {ops : Array Oper} {md : Region.Mode} {C : World → Prop}
/-- The first 'n' operations, in whatever order, each quiet in the class; behind them 'L'. -/
def headAny (P : Program) (md : Region.Mode) (ops : Array Oper) (C : World → Prop) (n : Nat) (L : Array Bool → Act → Prop) : Nat → Array Bool → Act → Prop
  | 0, listed, a => L listed a
  | f + 1, listed, a =>
    Region.ready md ops listed ≠ [] ∧ ∀ i ∈ Region.ready md ops listed, i < n ∧ qOp P ops C i (headAny P md ops C n L f (listed.setIfInBounds i true)) a

theorem any_of_head {n g : Nat} {L : Array Bool → Act → Prop} {Q' : Exit → Act → World → Prop} (hL : ∀ listed a w, C w → L listed a → wpAny P md ops Q' g listed a w) :
    ∀ (f : Nat) (listed : Array Bool) (a : Act) (w : World), C w → headAny P md ops C n L f listed a → wpAny P md ops Q' (f + g) listed a w
  | 0, listed, a, w, hw, h => by rw [Nat.zero_add]; exact hL _ _ _ hw h
  | f + 1, listed, a, w, hw, h => by
    rw [show f + 1 + g = (f + g) + 1 by omega]
    exact ⟨fun h0 => absurd h0 h.1, fun i hi => wpOp_of_qOp hw (fun a' w' hw' h' => any_of_head hL f _ a' w' hw' h') (h.2 i hi).2⟩

theorem head_first {n i : Nat} {oi : Oper} {v : Value} {L : Array Bool → Act → Prop} (hi : ops[i]? = some oi) (hsel : ∀ (j : Nat) (o : Oper) cs b, ops[j]? = some o → o.op ≠ .select cs b)
    (hs : Region.sinkB md ops n = true) (hc : Region.chainB md ops n = true) (hn : n < ops.size) (hin : i < n)
    (hdone : ∀ listed a, L listed a → ∀ j ∈ Region.ready md ops listed, n ≤ j) :
    ∀ (f : Nat) (listed : Array Bool) (a : Act), HeadInv md ops n listed →
      (∀ j oj, ops[j]? = some oj → j ≠ i → listed.getD j true = false → (∀ e ∈ oj.after, Region.binds md e = true → e.on ≠ i) → oi.apart ops oj = true) →
      i ∈ Region.ready md ops listed → YieldsIn P ops C oi v a →
      headAny P md ops C n L f (listed.setIfInBounds i true) (a.put oi.dst v) → headAny P md ops C n L (f + 1) listed a := by
  intro f
  induction f with
  | zero =>
    intro listed a inv _ hr hy H
    refine ⟨fun h => (by rw [h] at hr; cases hr), fun j hj => ?_⟩
    have hjn : j < n := by
      rcases Nat.lt_or_ge j n with h | h
      · exact h
      · exact absurd hj (tail_waits hs hc hn inv _ i rfl hin (mem_ready.1 hr).1 j h)
    refine ⟨hjn, ?_⟩
    by_cases hji : j = i
    · subst hji; exact hy.qOp hi H
    · have := hdone _ _ H j (ready_mono hj hji)
      omega
  | succ f ih =>
    intro listed a inv hfree hr hy H
    refine ⟨fun h => (by rw [h] at hr; cases hr), fun j hj => ?_⟩
    have hjn : j < n := by
      rcases Nat.lt_or_ge j n with h | h
      · exact h
      · exact absurd hj (tail_waits hs hc hn inv _ i rfl hin (mem_ready.1 hr).1 j h)
    refine ⟨hjn, ?_⟩
    by_cases hji : j = i
    · subst hji; exact hy.qOp hi H
    · have h1 := (H.2 j (ready_mono hj hji)).2
      obtain ⟨hjun, oj, hoj, hall⟩ := mem_ready.1 hj
      have hnot : ∀ e ∈ oj.after, Region.binds md e = true → e.on ≠ i := fun e he hb heq => by
        have h1 := hall e he hb
        have h0 := (mem_ready.1 hr).1
        rw [heq, getD_both h0] at h1
        cases h1
      have h2 := qOp_put hoj (hfree j oj hoj hji hjun hnot) (fun cs b => hsel i oi cs b hi) (fun cs b => hsel j oj cs b hoj) hy h1
      have hfree' : ∀ k ok, ops[k]? = some ok → k ≠ i → (listed.setIfInBounds j true).getD k true = false →
          (∀ e ∈ ok.after, Region.binds md e = true → e.on ≠ i) → oi.apart ops ok = true := fun k ok hk hki hun hno => by
        refine hfree k ok hk hki ?_ hno
        by_cases hjk : j = k
        · subst hjk; exact hjun
        · rw [getD_set_ne true hjk] at hun; exact hun
      refine qOp_mono (fun a' h3 => ih (listed.setIfInBounds j true) a' (inv.set hj hjn) hfree' (ready_mono hr (Ne.symm hji)) h3.1 ?_) h2
      rw [Array.setIfInBounds_comm _ _ hji]
      exact h3.2

theorem head_lex {n g : Nat} {Lq : Act → Prop} (hsel : Region.noSelect ops = true) (hs : Region.sinkB md ops n = true) (hc : Region.chainB md ops n = true) (hn : n < ops.size) :
    ∀ (l : List Oper) (k : Nat) (listed : Array Bool) (a : Act), (∀ j, j < l.length → l[j]? = ops[k + j]?) → k + l.length = n → HeadInv md ops n listed →
      Region.lexHead md ops g l.length k listed = true → wpQuiet P ops C Lq l a →
      headAny P md ops C n (fun listed a => Region.seqB md ops g n listed = true ∧ Lq a) l.length listed a
  | [], k, listed, a, _, hk, _, hB, h => by
    have : k = n := by simpa using hk
    subst this
    exact ⟨by simpa [Region.lexHead] using hB, h⟩
  | o :: l, k, listed, a, hl, hk, inv, hB, h => by
    have h0 : ops[k]? = some o := by simpa using (hl 0 (by simp)).symm
    simp only [List.length_cons, Region.lexHead, Bool.and_eq_true] at hB
    obtain ⟨⟨hr, hf⟩, hB'⟩ := hB
    have hkn : k < n := by simp only [List.length_cons] at hk; omega
    have hr' : k ∈ Region.ready md ops listed := by simpa using hr
    have hst : qOp P ops C k (wpQuiet P ops C Lq l) a := by unfold qOp; simp only [h0]; exact h
    obtain ⟨v, hy, hK⟩ := yieldsIn_of_qOp h0 hst
    exact head_first h0 (Region.noSelect_spec hsel) hs hc hn hkn (fun listed' a' hL => seqB_ready hL.1) l.length listed a inv (Region.free_spec h0 hf) hr' hy
      (head_lex hsel hs hc hn l (k + 1) _ _ (fun j hj => by have := hl (j + 1) (by simp; omega); simpa [Nat.add_assoc, Nat.add_comm 1 j] using this) (by simp only [List.length_cons] at hk; omega) (inv.set hr' hkn) hB' hK)

/-- A drawn region: its first 'n' operations are quiet in the class 'C', in whatever order; the others come behind, each waiting for the one before: ONE walk in the order of the text. -/
theorem wp_region_head {id : Nat} {Q : Exit → Act → World → Prop} {a : Act} {w : World} {l : List Oper} (n : Nat) (hm : P.follows .mixedOrders = true) (hB : Region.lexTailB .any l.toArray n = true)
    (hC : C { w with drawn := w.drawn + 1 })
    (h : wpQuiet P l.toArray C (fun a' => ∀ w', C w' → wpList P l.toArray Q (l.drop n) a' w') (l.take n) a) : (Code.region id l.toArray true).wp P Q a w := by
  simp only [Region.lexTailB, Bool.and_eq_true, decide_eq_true_eq] at hB
  obtain ⟨⟨⟨⟨hsel, hn⟩, hs⟩, hc⟩, hlex⟩ := hB
  have hn' : n < l.length := by simpa using hn
  have htl : (l.take n).length = n := by simp; omega
  have hdl : (l.drop n).length = l.toArray.size - n := by simp
  have inv0 : HeadInv .any l.toArray n (Array.replicate l.toArray.size false) :=
    ⟨by simp, fun j oj _ hl => (by rw [getD_replicate_false] at hl; cases hl), fun t _ ht => getD_in (by simpa using ht) (getD_replicate_false _ _)⟩
  have H := head_lex (C := C) (P := P) (md := .any) (g := l.toArray.size - n) hsel hs hc hn (l.take n) 0 _ a (fun j hj => by
    have hj' : j < n := by rw [htl] at hj; exact hj
    simp [hj']) (by simpa using htl) inv0 (by rw [htl]; exact hlex) h
  refine wp_region_any hm ?_
  have := any_of_head (Q' := Q) (g := l.toArray.size - n) (fun listed a' w' hw' hL => by
    have := wpAny_of_seq (md := .any) (Q' := Q) (l.drop n) n listed a' w' (fun j => by simp [List.getElem?_drop]) (by rw [hdl]; exact hL.1) (hL.2 w' hw')
    rwa [hdl] at this) _ _ _ _ hC H
  rw [htl, show n + (l.toArray.size - n) = l.toArray.size by omega] at this
  exact this
end

/-- The worlds that 'w' has grown into: below block 'w.heap.size' all is as it was. -/
structure Grew (w : World) where
  val : World
  ok : Below w.heap.size w val
instance (w : World) : Nonempty (Grew w) := ⟨⟨w, Below.refl _ w⟩⟩

theorem Grew.cell {w : World} (x : Grew w) (b o : Nat) (h : b < w.heap.size) : x.val.cell? ⟨b, o, none⟩ = w.cell? ⟨b, o, none⟩ := x.ok.cell (p := ⟨b, o, none⟩) h
theorem Grew.frozen {w : World} (x : Grew w) (b o : Nat) (h : b < w.heap.size) : x.val.frozen? ⟨b, o, none⟩ = w.frozen? ⟨b, o, none⟩ := x.ok.frozen (p := ⟨b, o, none⟩) h

/-- A callee's contract in a world that has grown. -/
theorem Grew.call {P : Program} {f : FuncId} {args : Array Value} {w : World} {x : Grew w} {v : Value}
    (h : Calls P f args x.val fun e w' => e = .returned v ∧ Below x.val.heap.size x.val w') : Calls P f args x.val fun e w'' => e = .returned v ∧ ∃ y : Grew w, w'' = y.val :=
  h.mono fun _ w' ⟨he, hb⟩ => ⟨he, ⟨w', x.ok.trans (hb.mono x.ok.size)⟩, rfl⟩
theorem Grew.call_same {P : Program} {f : FuncId} {args : Array Value} {w : World} {x : Grew w} {v : Value}
    (h : Calls P f args x.val fun e w' => e = .returned v ∧ x.val = w') : Calls P f args x.val fun e w'' => e = .returned v ∧ ∃ y : Grew w, w'' = y.val :=
  h.mono fun _ _ ⟨he, hb⟩ => ⟨he, x, hb.symm⟩

theorem via {w a b : World} (h1 : Below w.heap.size w a) (h2 : Below a.heap.size a b) : Below w.heap.size w b := h1.trans (h2.mono h1.size)
theorem via_alloc {w a : World} (h1 : Below w.heap.size w a) (o : Obj) : Below w.heap.size w (a.alloc o) := h1.alloc h1.size o
theorem new_below (w : World) (o : Obj) : Below w.heap.size w (w.alloc o) := (Below.refl _ _).alloc (Nat.le_refl _) o

theorem gcell {W w1 : World} (hb : Below W.heap.size W w1) (b o : Nat) (h : b < W.heap.size) : w1.cell? ⟨b, o, none⟩ = W.cell? ⟨b, o, none⟩ := hb.cell (p := ⟨b, o, none⟩) h
theorem gfrozen {W w1 : World} (hb : Below W.heap.size W w1) (b o : Nat) (h : b < W.heap.size) : w1.frozen? ⟨b, o, none⟩ = W.frozen? ⟨b, o, none⟩ := hb.frozen (p := ⟨b, o, none⟩) h

theorem wp_region_grew {P : Program} {id : Nat} {Q : Exit → Act → World → Prop} {a : Act} {w : World} {l : List Oper} (n : Nat) (hm : P.follows .mixedOrders = true) (hB : Region.lexTailB .any l.toArray n = true)
    (h : wpQuiet P l.toArray (fun w' => ∃ x : Grew w, w' = x.val) (fun a' => ∀ x : Grew w, wpList P l.toArray Q (l.drop n) a' x.val) (l.take n) a) : (Code.region id l.toArray true).wp P Q a w := by
  refine wp_region_head (C := fun w' => ∃ x : Grew w, w' = x.val) n hm hB ⟨⟨_, (Below.refl _ w).drew⟩, rfl⟩ ?_
  have e : (fun a' => ∀ w', (∃ x : Grew w, w' = x.val) → wpList P l.toArray Q (l.drop n) a' w') = (fun a' => ∀ x : Grew w, wpList P l.toArray Q (l.drop n) a' x.val) := by
    funext a'
    exact propext ⟨fun h x => h _ ⟨x, rfl⟩, fun h w' ⟨x, hx⟩ => hx ▸ h x⟩
  rw [e]
  exact h
theorem wp_region_grew_all {P : Program} {id : Nat} {Q : Exit → Act → World → Prop} {a : Act} {w : World} {l : List Oper} (hm : P.follows .mixedOrders = true) (hB : Region.lexB .any l.toArray = true)
    (h : wpQuiet P l.toArray (fun w' => ∃ x : Grew w, w' = x.val) (fun a' => ∀ x : Grew w, Q .normal a' x.val) l a) : (Code.region id l.toArray true).wp P Q a w := by
  refine wp_region_quiet (C := fun w' => ∃ x : Grew w, w' = x.val) hm hB ⟨⟨_, (Below.refl _ w).drew⟩, rfl⟩ ?_
  have e : (fun a' => ∀ w', (∃ x : Grew w, w' = x.val) → Q .normal a' w') = (fun a' => ∀ x : Grew w, Q .normal a' x.val) := by
    funext a'
    exact propext ⟨fun h x => h _ ⟨x, rfl⟩, fun h w' ⟨x, hx⟩ => hx ▸ h x⟩
  simp only [e]
  exact h

/-- A drawn region in a call that began in 'w0': its first 'n' operations in whatever order in worlds that grow, then the forced tail. -/
theorem region_in {P : Program} {id : Nat} {Q : Exit → Act → World → Prop} {a : Act} {w : World} {l : List Oper} (w0 : World) (n : Nat) (hm : P.follows .mixedOrders = true) (hB : Region.lexTailB .any l.toArray n = true)
    (hw : Below w0.heap.size w0 w)
    (h : (∀ (x : Grew w) (b o : Nat), b < w.heap.size → x.val.cell? ⟨b, o, none⟩ = w.cell? ⟨b, o, none⟩) → Hid (∀ x : Grew w, Below w0.heap.size w0 x.val) →
      wpQuiet P l.toArray (fun w' => ∃ x : Grew w, w' = x.val) (fun a' => ∀ W1, Below w.heap.size w W1 → Below w0.heap.size w0 W1 → w.heap.size ≤ W1.heap.size → wpList P l.toArray Q (l.drop n) a' W1) (l.take n) a) : (Code.region id l.toArray true).wp P Q a w := by
  refine wp_region_grew n hm hB ?_
  have e : (fun a' => ∀ W1, Below w.heap.size w W1 → Below w0.heap.size w0 W1 → w.heap.size ≤ W1.heap.size → wpList P l.toArray Q (l.drop n) a' W1) = (fun a' => ∀ x : Grew w, wpList P l.toArray Q (l.drop n) a' x.val) := by
    funext a'
    exact propext ⟨fun h x => h x.val x.ok (via hw x.ok) x.ok.size, fun h W1 hb _ _ => h ⟨W1, hb⟩⟩
  rw [← e]
  exact h (fun x => x.cell) (fun x => via hw x.ok)
theorem region_all {P : Program} {id : Nat} {Q : Exit → Act → World → Prop} {a : Act} {w : World} {l : List Oper} (w0 : World) (hm : P.follows .mixedOrders = true) (hB : Region.lexB .any l.toArray = true)
    (hw : Below w0.heap.size w0 w)
    (h : (∀ (x : Grew w) (b o : Nat), b < w.heap.size → x.val.cell? ⟨b, o, none⟩ = w.cell? ⟨b, o, none⟩) → Hid (∀ x : Grew w, Below w0.heap.size w0 x.val) →
      wpQuiet P l.toArray (fun w' => ∃ x : Grew w, w' = x.val) (fun a' => ∀ W1, Below w.heap.size w W1 → Below w0.heap.size w0 W1 → w.heap.size ≤ W1.heap.size → Q .normal a' W1) l a) : (Code.region id l.toArray true).wp P Q a w := by
  refine wp_region_grew_all hm hB ?_
  have e : (fun a' => ∀ W1, Below w.heap.size w W1 → Below w0.heap.size w0 W1 → w.heap.size ≤ W1.heap.size → Q .normal a' W1) = (fun a' => ∀ x : Grew w, Q .normal a' x.val) := by
    funext a'
    exact propext ⟨fun h x => h x.val x.ok (via hw x.ok) x.ok.size, fun h W1 hb _ _ => h ⟨W1, hb⟩⟩
  rw [← e]
  exact h (fun x => x.cell) (fun x => via hw x.ok)
end Go.Proofs

set_option linter.unusedSimpArgs false
set_option linter.unusedVariables false
namespace Go.Proofs
open Go.RowKit

def within (n lo hi : Int) : Bool := decide (lo ≤ n) && decide (n ≤ hi)

theorem within_any (n lo hi : Int) (w : World) :
    Calls Tryz.prog 33 #[.int .i64 n, .int .i64 lo, .int .i64 hi] w fun e w' => e = .returned (.bool (within n lo hi)) ∧ w = w' := by
  unfold within
  by_cases h : lo ≤ n <;> by_cases h2 : n ≤ hi
  all_goals
    go_enter Tryz.func33, Tryz.ntmps33
    go_wp2
    go_ret
    simp_all

theorem refWithin_any (n lo hi : Int) (w : World) :
    Calls Tryz.prog 25 #[.int .i64 n, .int .i64 lo, .int .i64 hi] w fun e w' => e = .returned (.bool (within n lo hi)) ∧ w = w' := by
  unfold within
  by_cases h : lo ≤ n <;> by_cases h2 : n ≤ hi
  all_goals
    go_enter Tryz.func25, Tryz.ntmps25
    go_wp2
    go_ret
    simp_all

def unl (b : Bool) (n : Int) : Int := if b then 0 else n
theorem unless_any (b : Bool) (n : Int) (w : World) :
    Calls Tryz.prog 36 #[.bool b, .int .i64 n] w fun e w' => e = .returned (.int .i64 (unl b n)) ∧ w = w' := by
  cases b
  all_goals
    go_enter Tryz.func36, Tryz.ntmps36
    go_wp2
    go_ret
    simp_all [unl]

/-- The first error of a list. -/
def firstE : List Int → Int
  | [] => 0
  | e :: l => if e = 0 then firstE l else e
theorem firstE_drop (es : List Int) : ∀ k, (∀ j, j < k → es.getD j 0 = 0) → firstE es = firstE (es.drop k) := by
  intro k
  induction k generalizing es with
  | zero => intro _; simp
  | succ k ih =>
    intro h
    cases es with
    | nil => simp
    | cons e l =>
      have he : e = 0 := by simpa using h 0 (by omega)
      simp only [firstE, he, if_true, List.drop_succ_cons]
      exact ih l (fun j hj => by simpa using h (j + 1) (by omega))
theorem firstE_at (es : List Int) (k : Nat) (hk : k < es.length) (h : ∀ j, j < k → es.getD j 0 = 0) (hne : es.getD k 0 ≠ 0) : firstE es = es.getD k 0 := by
  rw [firstE_drop es k h, List.drop_eq_getElem_cons hk]
  have : es.getD k 0 = es[k] := by simp [hk]
  simp only [firstE]
  rw [if_neg (by rw [← this]; exact hne), this]
theorem firstE_none (es : List Int) (h : ∀ j, j < es.length → es.getD j 0 = 0) : firstE es = 0 := by
  rw [firstE_drop es es.length h]; simp [firstE]

theorem first_any (es : List Int) (b : Nat) (w : World) (hl : es.length ≤ 100) (hc : ∀ j, j < es.length → w.cell? ⟨b, j, none⟩ = some (.int .i64 (es.getD j 0))) :
    Calls Tryz.prog 35 #[.slice (some ⟨b, 0, none⟩) es.length es.length] w fun e w' => e = .returned (.int .i64 (firstE es)) ∧ w = w' := by
  have hc' := Lib.hid hc
  clear hc
  go_enter Tryz.func35, Tryz.ntmps35
  go_wp2
  go_loop [7] (fun i => ∃ k : Nat, k ≤ es.length ∧ i = .int .i64 k ∧ Hid (∀ j, j < k → es.getD j 0 = 0)) (fun i => es.length - (intOf i).toNat)
  case atStart => exact ⟨0, Nat.zero_le _, rfl, fun j hj => by omega⟩
  case round =>
    obtain ⟨k, hk, rfl, hz⟩ := hrel
    by_cases hlt : k < es.length
    · have hck := hc'.out k hlt
      obtain ⟨v, hv⟩ : ∃ v, es.getD k 0 = v := ⟨_, rfl⟩
      rw [hv] at hck
      have hv' := Lib.hid hv
      clear hv
      by_cases h0 : v = 0
      · have hb : (v != 0) = false := by simp [h0]
        have h0' := Lib.hid h0
        clear h0
        go_wp2
        go_round
        case rel => exact ⟨k + 1, by omega, by go_num, fun j hj => by
          by_cases e : j = k
          · subst e; rw [hv'.out]; exact h0'.out
          · exact hz.out j (by omega)⟩
        case measure => simp [intOf]; omega
      · have hb : (v != 0) = true := by simp [h0]
        go_wp2
        go_ret
        exact ⟨ret_int (by rw [firstE_at es k hlt hz.out (by rw [hv'.out]; exact h0)]; exact hv'.out.symm), rfl⟩
    · go_wp2
      go_ret
      exact ⟨ret_int (firstE_none es (fun j hj => hz.out j (by omega))).symm, rfl⟩

theorem first2 (a b : Int) (w : World) : Calls Tryz.prog 35 #[.slice (some ⟨w.heap.size, 0, none⟩) 2 2] (w.alloc (.cells #[.int .i64 a, .int .i64 b] 38)) fun e w' => e = .returned (.int .i64 (firstE [a, b])) ∧ w.alloc (.cells #[.int .i64 a, .int .i64 b] 38) = w' :=
  first_any [a, b] w.heap.size _ (by simp) (fun j hj => by rw [World.cell?_alloc_at _ _ _ _ rfl]; match j, hj with | 0, _ => rfl | 1, _ => rfl)
theorem first3 (a b c : Int) (w : World) : Calls Tryz.prog 35 #[.slice (some ⟨w.heap.size, 0, none⟩) 3 3] (w.alloc (.cells #[.int .i64 a, .int .i64 b, .int .i64 c] 38)) fun e w' => e = .returned (.int .i64 (firstE [a, b, c])) ∧ w.alloc (.cells #[.int .i64 a, .int .i64 b, .int .i64 c] 38) = w' :=
  first_any [a, b, c] w.heap.size _ (by simp) (fun j hj => by rw [World.cell?_alloc_at _ _ _ _ rfl]; match j, hj with | 0, _ => rfl | 1, _ => rfl | 2, _ => rfl)
theorem first4 (a b c d : Int) (w : World) : Calls Tryz.prog 35 #[.slice (some ⟨w.heap.size, 0, none⟩) 4 4] (w.alloc (.cells #[.int .i64 a, .int .i64 b, .int .i64 c, .int .i64 d] 38)) fun e w' => e = .returned (.int .i64 (firstE [a, b, c, d])) ∧ w.alloc (.cells #[.int .i64 a, .int .i64 b, .int .i64 c, .int .i64 d] 38) = w' :=
  first_any [a, b, c, d] w.heap.size _ (by simp) (fun j hj => by rw [World.cell?_alloc_at _ _ _ _ rfl]; match j, hj with | 0, _ => rfl | 1, _ => rfl | 2, _ => rfl | 3, _ => rfl)
theorem first5 (a b c d f : Int) (w : World) : Calls Tryz.prog 35 #[.slice (some ⟨w.heap.size, 0, none⟩) 5 5] (w.alloc (.cells #[.int .i64 a, .int .i64 b, .int .i64 c, .int .i64 d, .int .i64 f] 38)) fun e w' => e = .returned (.int .i64 (firstE [a, b, c, d, f])) ∧ w.alloc (.cells #[.int .i64 a, .int .i64 b, .int .i64 c, .int .i64 d, .int .i64 f] 38) = w' :=
  first_any [a, b, c, d, f] w.heap.size _ (by simp) (fun j hj => by rw [World.cell?_alloc_at _ _ _ _ rfl]; match j, hj with | 0, _ => rfl | 1, _ => rfl | 2, _ => rfl | 3, _ => rfl | 4, _ => rfl)

def gaugingE (s : List UInt8) (d lo hi : Int) : Int :=
  firstE [unl (nameB s) 4, unl (within d 0 100000 && within lo 0 100000 && within hi 0 100000) 2, unl (decide (lo ≤ hi)) 9]

end Go.Proofs
