import Derived.Test.YtpmliaildjomeaaGreatDoorMg7
import Derived.Test.YtpmliaildjomeaaGreatDoorMg3
import Derived.Test.YtpmliaildjomeaaGreatDoorMg10
import Derived.Test.YtpmliaildjomeaaGreatDoorMg13
import Derived.Test.YtpmliaildjomeaaGreatDoorMg12
set_option linter.unusedSimpArgs false
set_option linter.unusedVariables false
namespace Go.Proofs
open Go.RowKit

theorem gcdL_take (l : List Int) : ∀ (k g : Nat), k < l.length → gcdL g (l.take (k + 1)) = Nat.gcd (gcdL g (l.take k)) (l.getD k 0).natAbs := by
  induction l with
  | nil => intro k g h; simp at h
  | cons x l ih =>
    intro k g h
    cases k with
    | zero => simp [gcdL]
    | succ k =>
      simp only [List.take_succ_cons, gcdL, List.getD_cons_succ]
      exact ih k _ (by simpa using h)
theorem gcd_step {g n : Int} (hn : n ≠ 0) : Nat.gcd n.natAbs (g.tmod n).natAbs = Nat.gcd g.natAbs n.natAbs ∧ (g.tmod n).natAbs < n.natAbs := by
  rw [Int.natAbs_tmod]
  refine ⟨?_, Nat.mod_lt _ (by omega)⟩
  rw [Nat.gcd_comm, ← Nat.gcd_rec, Nat.gcd_comm]
set_option maxRecDepth 100000 in
set_option maxHeartbeats 2000000 in
theorem divisor_any (A : Option Addr) (l : List Int) (c : Nat) (w : World) (hA : At 1 Zc w A l) (h8 : l.length ≤ 1000) (sl : Small 1000000000000000000 l) :
    Calls Tryz.prog 85 #[.slice A l.length c] w fun e w' => e = .returned (.int .i64 (gcdL 0 l : Nat)) ∧ Below w.heap.size w w' := by
  have htake := Lib.hid fun k hk => gcdL_take l k 0 hk
  have gA := Lib.hid fun W' (hb : Below w.heap.size w W') k (hk : k < l.length) => zc_cell (hA.below hb) hk
  have ga := Lib.hid sl.get
  have hall : Hid (gcdL 0 (l.take l.length) = gcdL 0 l) := by rw [List.take_length]; exact rfl
  obtain ⟨N, hN⟩ : ∃ N, l.length = N := ⟨_, rfl⟩
  rw [hN] at htake h8 gA hall ⊢
  obtain ⟨S, hS⟩ : ∃ S : Nat → Nat, (fun k => gcdL 0 (l.take k)) = S := ⟨_, rfl⟩
  have hSk : ∀ k, gcdL 0 (l.take k) = S k := fun k => by rw [← hS]
  have hS0 : S 0 = 0 := by rw [← hS]; simp [gcdL]
  simp only [hSk] at htake hall
  obtain ⟨R, hR⟩ : ∃ R, gcdL 0 l = R := ⟨_, rfl⟩
  rw [hR] at hall ⊢
  clear hA hN sl hS hSk hR
  go_enter Tryz.func85, Tryz.ntmps85
  go_wp2
  go_loopw [3, 8] (fun s i wr => ∃ (k : Nat) (g : Int), k ≤ N ∧ i = .int .i64 k ∧ s = .int .i64 g ∧ Hid (g.natAbs = S k) ∧ Hid (g.natAbs ≤ 1000000000000000000) ∧ Below w.heap.size w wr) (fun _ i _ => N - (intOf i).toNat)
  case atStart => exact ⟨0, 0, Nat.zero_le _, rfl, rfl, by show (0 : Int).natAbs = _; rw [hS0]; rfl, by show (0 : Int).natAbs ≤ _; omega, by go_grown⟩
  case round =>
    obtain ⟨k, g0, hk, rfl, rfl, hg0, hgb0, hbw⟩ := hrel
    by_cases hlt : k < N
    · have hkI : (k : Int) < (N : Int) := by omega
      obtain ⟨b1, o1, hA1, hs1, c1⟩ := gA.out wr hbw k hlt
      subst hA1
      have ht := Lib.hid (htake.out k hlt)
      have hx0 := Lib.hid (ga.out k)
      obtain ⟨x, hx⟩ : ∃ x, l.getD k 0 = x := ⟨_, rfl⟩
      rw [hx] at c1 ht hx0
      clear hx
      go_wp2
      go_loopw [3, 5] (fun s j wr => ∃ g n : Int, s = .int .i64 g ∧ j = .int .i64 n ∧ Hid (Nat.gcd g.natAbs n.natAbs = S (k + 1)) ∧ Hid (g.natAbs ≤ 1000000000000000000 ∧ n.natAbs ≤ 1000000000000000000) ∧ Below w.heap.size w wr) (fun _ j _ => (intOf j).natAbs)
      case atStart => exact ⟨g0, x, rfl, rfl, by show Nat.gcd _ _ = _; rw [ht.out, hg0.out], ⟨hgb0.out, hx0.out⟩, by first | assumption | go_grown⟩
      case round =>
        clear hbw c1
        obtain ⟨g, n, rfl, rfl, hg, hgb, hbw⟩ := hrel
        by_cases hn : n = 0
        · subst hn
          have hg2 := Lib.hid (show g.natAbs = S (k + 1) from by have := hg.out; simpa using this)
          go_wp2
          go_roundw
          case rel => exact ⟨k + 1, g, by omega, by go_num, rfl, hg2.out, hgb.out.1, hbw⟩
          case measure => first | (simp [intOf]; done) | (simp [intOf]; omega)
        · have hnz : (n != 0) = true := by simpa using hn
          obtain ⟨s1, s2⟩ := gcd_step (g := g) hn
          have hg2 := Lib.hid (s1.trans hg.out)
          have hgb2 := Lib.hid (show n.natAbs ≤ 1000000000000000000 ∧ (g.tmod n).natAbs ≤ 1000000000000000000 from ⟨hgb.out.2, by have := hgb.out.2; omega⟩)
          have hm2 := Lib.hid s2
          clear s1 s2
          go_wp2
          refine region_all w (by kernel_rfl) (by kernel_rfl) (by go_grown) ?_
          intro hgc hbx
          repeat (go_big_quiet_step (fail))
          refine wpQuiet_nil ?_
          intro wb hb_wb hw_wb hs_wb
          clear hgc hbx
          go_wp2
          go_roundw
          case rel => exact ⟨n, g.tmod n, rfl, rfl, hg2.out, hgb2.out, by first | assumption | go_grown⟩
          case measure => have := hm2.out; simp only [intOf]; exact this
    · obtain rfl : k = N := by omega
      have hgR : g0.natAbs = R := hg0.out.trans hall.out
      have hgb := hgb0.out
      clear hlt
      go_wp2
      all_goals go_ret
      all_goals exact ⟨ret_int (by omega), hbw⟩
end Go.Proofs

set_option linter.unusedSimpArgs false
set_option linter.unusedVariables false
namespace Go.Proofs
open Go.RowKit

/-! Rows that the call makes, in a list of its own. -/
structure RowsOwn (wr : World) (base : Nat) (v : Value) (xs : List IR) : Prop where
  own : wr.ownsRow base 33 1 v xs.length (xs.map fun x => .slice x.A x.l.length x.c)
  row : ∀ x ∈ xs, At 1 Zc wr x.A x.l ∧ ∀ g, x.A = some g → base ≤ g.block ∧ g.block < wr.heap.size ∧ some g.block ≠ v.ownBlock
theorem RowsOwn.nil (wr : World) (base : Nat) : RowsOwn wr base (.slice none 0 0) [] := ⟨World.ownsRow_nil _ _ _ _, fun x h => by cases h⟩
theorem RowsOwn.below {w w' : World} {base : Nat} {v : Value} {xs : List IR} (h : RowsOwn w base v xs) (hb : Below w.heap.size w w') : RowsOwn w' base v xs :=
  ⟨owns_below h.own hb, fun x hx => ⟨(h.row x hx).1.below hb, fun g hg => by have := (h.row x hx).2 g hg; exact ⟨this.1, Nat.lt_of_lt_of_le this.2.1 hb.size, this.2.2⟩⟩⟩
theorem RowsOwn.rowsAt {w : World} {base : Nat} {A : Option Addr} {n c : Nat} {xs : List IR} (h : RowsOwn w base (.slice A n c) xs) : RowsAt w A xs := by
  refine ⟨fun k x hx => ?_, fun x hx => (h.row x hx).1⟩
  have ho := h.own
  obtain ⟨A', c', e⟩ := own_slice ho
  cases e
  obtain ⟨g, hA, -, h2, h3⟩ := own_cell ho (k := k) (u := .slice x.A x.l.length x.c) (by rw [List.getElem?_map, hx]; rfl)
  refine ⟨g, 0, hA, h2, fun j v hv => ?_⟩
  cases j with
  | zero => simp [IR.cs] at hv; subst hv; simpa using h3
  | succ j => simp [IR.cs] at hv
/-- A block of one cell beside. -/
theorem RowsOwn.push {w w1 w3 : World} {base : Nat} {v : Value} {xs : List IR} (h : RowsOwn w base v xs) (hw1 : Below w.heap.size w w1) {x : IR} {g9 : Addr} (hA : x.A = some g9) (hat : At 1 Zc w1 x.A x.l) (hb9 : base ≤ g9.block) (hl9 : g9.block < w1.heap.size) (hn9 : some g9.block ≠ v.ownBlock)
    (hg : w1.grownBy w3 v.ownBlock) {g cap : Nat} (ho : w3.ownsRow base 33 1 (.slice (some ⟨g, 0, none⟩) (xs.length + 1) cap) (xs.length + 1) ((xs.map fun x => Value.slice x.A x.l.length x.c) ++ [.slice x.A x.l.length x.c])) (hor : v.ownBlock = some g ∨ g = w1.heap.size) :
    RowsOwn w3 base (.slice (some ⟨g, 0, none⟩) (xs.length + 1) cap) (xs ++ [x]) := by
  have hne : ∀ k, k < w1.heap.size → some k ≠ v.ownBlock → some k ≠ some g := fun k hk hk2 e => by
    rcases hor with h | h
    · exact hk2 (e.trans h.symm)
    · cases e; omega
  have hatg : ∀ (A : Option Addr) (l : List Int), At 1 Zc w1 A l → (∀ g, A = some g → some g.block ≠ v.ownBlock) → At 1 Zc w3 A l := fun A l hat hn k y hy => by
    obtain ⟨b, o, hA, hlt, hc⟩ := hat k y hy
    refine ⟨b, o, hA, Nat.lt_of_lt_of_le hlt hg.size, fun j u hu => ?_⟩
    rw [← hc j u hu]
    exact World.cell?_of_block (a := ⟨b, o + k * 1 + j, none⟩) (hg.block b hlt (hn _ hA))
  refine ⟨?_, fun y hy => ?_⟩
  · rw [List.length_append, List.map_append]
    exact ho
  · rcases List.mem_append.1 hy with hy | hy
    · obtain ⟨r1, r2⟩ := h.row y hy
      refine ⟨hatg _ _ (r1.below hw1) fun g hg => (r2 g hg).2.2, fun a ha => ?_⟩
      obtain ⟨q1, q2, q3⟩ := r2 a ha
      have q4 := Nat.lt_of_lt_of_le q2 hw1.size
      exact ⟨q1, Nat.lt_of_lt_of_le q4 hg.size, hne _ q4 q3⟩
    · rw [List.mem_singleton] at hy
      subst hy
      refine ⟨hatg _ _ hat fun g hg => ?_, fun a ha => ?_⟩
      · rw [hA] at hg; cases hg; exact hn9
      · rw [hA] at ha
        cases ha
        exact ⟨hb9, Nat.lt_of_lt_of_le hl9 hg.size, hne _ hl9 hn9⟩
theorem proofRows_snoc (es : List Ex) (z t : List Nat) : ∀ (ws : List Int) (k : Nat) (w : Int), proofRows es z t k (ws ++ [w]) = proofRows es z t k ws ++ if k + ws.length ∈ z then [] else [proofRow es t (k + ws.length) w]
  | [], k, w => by
    simp only [List.nil_append, proofRows, List.length_nil, Nat.add_zero]
  | v :: ws, k, w => by
    have := proofRows_snoc es z t ws (k + 1) w
    rw [show k + 1 + ws.length = k + (v :: ws).length by simp only [List.length_cons]; omega] at this
    simp only [List.cons_append, proofRows]
    split
    · exact this
    · rw [this]; rfl
/-- The row of a part, so far. -/
def rowPre (es : List Ex) (t : List Nat) (c j : Nat) : List Int := 1 :: (t.take j).map fun i => -((es.getD i default).1.getD c 0)
theorem rowPre_len (es : List Ex) (t : List Nat) (c j : Nat) (h : j ≤ t.length) : (rowPre es t c j).length = j + 1 := by simp [rowPre, Nat.min_eq_left h]
theorem rowPre_step {es : List Ex} {t : List Nat} {c j i : Nat} (h : t[j]? = some i) : rowPre es t c (j + 1) = rowPre es t c j ++ [-((es.getD i default).1.getD c 0)] := by
  unfold rowPre
  rw [List.take_add_one, h]
  simp
theorem rowPre_all (es : List Ex) (t : List Nat) (c : Nat) (w : Int) : rowPre es t c t.length ++ [w] = proofRow es t c w := by simp [rowPre, proofRow]
theorem Tryz.info31 : (Tryz.prog.info? 33).map (fun i => (i.zero, i.size, i.bytes)) = some (some (.slice none 0 0), 1, 24) := by kernel_rfl
end Go.Proofs

set_option linter.unusedSimpArgs false
set_option linter.unusedVariables false
namespace Go.Proofs
open Go.RowKit
section
variable {P : Program}
/-! Drawn regions whose last operation waits for all others (an assignment to a slot that others look at). -/
theorem region_last {id : Nat} {Q : Exit → Act → World → Prop} {a0 : Act} {w : World} {l : List Oper} (n : Nat) (oz : Oper) (hm : P.follows .mixedOrders = true) (hn : l.length = n + 1) (hz : l[n]? = some oz)
    (hB : slotsOk (l.take n).toArray = true) (hG : l.all (fun o => o.guard.isNone) = true) (hA : (List.range n).all (fun i => oz.after.any fun e => Region.binds .any e && e.on == i) = true) (hE : oz.after.all (fun e => !Region.binds .any e || decide (e.on < n)) = true)
    (h : wpAny P .any (l.take n).toArray (fun e a x => match e with | .normal => oz.wp P a x (fun a' x' => Q .normal a' x') Q | e => Q e a x) (l.take n).toArray.size (Array.replicate (l.take n).toArray.size false) a0 { w with drawn := w.drawn + 1 }) :
    (Code.region id l.toArray true).wp P Q a0 w := by
  have H := slotsOk_spec hB
  have hlen : (l.take n).length = n := by simp; omega
  have hgn : ∀ (i : Nat) (o : Oper), l[i]? = some o → o.guard = none := fun i o ho => by
    have := List.all_eq_true.1 hG o (List.mem_of_getElem? ho)
    simpa using this
  have get0 : ∀ i, i < n → (l.take n).toArray[i]? = l.toArray[i]? := fun i hi => by simp [List.getElem?_take_of_lt hi]
  have getn : ∀ i, n ≤ i → (l.take n).toArray[i]? = none := fun i hi => by simp [List.getElem?_eq_none (show (l.take n).length ≤ i by omega)]
  have pushD : ∀ (listed : Array Bool) (b d : Bool) (i : Nat), listed.size = n → i < n → (listed.push b).getD i d = listed.getD i d := fun listed b d i hs hi => by
    rw [Array.getD_eq_getD_getElem?, Array.getD_eq_getD_getElem?, Array.getElem?_push_lt (by omega)]
    simp [Array.getElem?_eq_getElem (show i < listed.size by omega)]
  have pushL : ∀ (listed : Array Bool) (b d : Bool), listed.size = n → (listed.push b).getD n d = b := fun listed b d hs => by
    rw [Array.getD_eq_getD_getElem?, ← hs]
    simp
  have rdy : ∀ (listed : Array Bool) (b : Bool) (i : Nat), listed.size = n → i < n → (i ∈ Region.ready .any l.toArray (listed.push b) ↔ i ∈ Region.ready .any (l.take n).toArray listed) := fun listed b i hs hi => by
    rw [mem_ready, mem_ready, pushD _ _ _ _ hs hi, get0 i hi]
    constructor
    · rintro ⟨h1, o, ho, h2⟩
      refine ⟨h1, o, ho, fun e he hb => ?_⟩
      have := H.after i o e ((get0 i hi).trans ho) he hb
      rw [← pushD listed b false e.on hs (by omega)]
      exact h2 e he hb
    · rintro ⟨h1, o, ho, h2⟩
      refine ⟨h1, o, ho, fun e he hb => ?_⟩
      have := H.after i o e ((get0 i hi).trans ho) he hb
      rw [pushD listed b false e.on hs (by omega)]
      exact h2 e he hb
  have gen : ∀ (f : Nat) (listed : Array Bool) (a : Act) (x : World), listed.size = n → wpAny P .any (l.take n).toArray (fun e a x => match e with | .normal => oz.wp P a x (fun a' x' => Q .normal a' x') Q | e => Q e a x) f listed a x → wpAny P .any l.toArray Q (f + 1) (listed.push false) a x := by
    have fin : ∀ (f : Nat) (listed : Array Bool) (a : Act) (x : World), listed.size = n → (∀ i, i < n → listed.getD i true = true) → oz.wp P a x (fun a' x' => Q .normal a' x') Q → wpAny P .any l.toArray Q (f + 1) (listed.push false) a x := by
      intro f listed a x hs hu hw
      have hrn : n ∈ Region.ready .any l.toArray (listed.push false) := by
        rw [mem_ready]
        refine ⟨pushL _ _ _ hs, oz, by simpa using hz, fun e he hb => ?_⟩
        have h1 := Array.all_eq_true'.1 hE e he
        rw [hb] at h1
        simp only [Bool.not_true, Bool.false_or, decide_eq_true_eq] at h1
        rw [pushD _ _ _ _ hs h1]
        have := hu e.on h1
        rw [Array.getD_eq_getD_getElem?, Array.getElem?_eq_getElem (by omega)] at this ⊢
        exact this
      refine ⟨fun h0 => (by rw [h0] at hrn; cases hrn), fun i hi => ?_⟩
      have hin : i = n := by
        obtain ⟨h1, o, ho, -⟩ := mem_ready.1 hi
        have hlt : i < l.length := by simpa using lt_of_some ho
        rcases Nat.lt_or_ge i n with h | h
        · rw [pushD _ _ _ _ hs h, hu i h] at h1
          cases h1
        · omega
      subst hin
      have hset : (listed.push false).setIfInBounds i true = listed.push true := by
        apply Array.ext_getElem?
        intro j
        rw [Array.getElem?_setIfInBounds, Array.getElem?_push, Array.getElem?_push]
        simp only [Array.size_push, hs]
        by_cases h : i = j
        · subst h; simp [hs]
        · simp [h, hs, Ne.symm h]
      have hlast : wpAny P .any l.toArray Q f (listed.push true) = fun a' x' => wpAny P .any l.toArray Q f (listed.push true) a' x' := rfl
      have hr0 : Region.ready .any l.toArray (listed.push true) = [] := by
        rw [List.eq_nil_iff_forall_not_mem]
        intro j hj
        obtain ⟨h1, o, ho, -⟩ := mem_ready.1 hj
        have hlt : j < l.length := by simpa using lt_of_some ho
        rcases Nat.lt_or_ge j i with h | h
        · rw [pushD _ _ _ _ hs h, hu j h] at h1
          cases h1
        · have : j = i := by omega
          subst this
          rw [pushL _ _ _ hs] at h1
          cases h1
      have hK : ∀ a' x', Q .normal a' x' → wpAny P .any l.toArray Q f (listed.push true) a' x' := fun a' x' h => by
        cases f with
        | zero => exact ⟨hr0, h⟩
        | succ f => exact ⟨fun _ => h, fun j hj => by rw [hr0] at hj; cases hj⟩
      unfold wpOp
      have hzi : l.toArray[i]? = some oz := by simpa using hz
      simp only [hzi]
      have hwn : Region.wanted oz (yielded l.toArray a.tmps) = true := by unfold Region.wanted; rw [hgn i oz hz]
      rw [if_pos hwn, hset]
      exact .inl (Oper.wp_mono hK hw)
    intro f
    induction f with
    | zero =>
      rintro listed a x hs ⟨hr, hq⟩
      exact fin 0 listed a x hs (fun i hi => all_up H (by simp [hs]; omega) hr i (by simp; omega)) hq
    | succ f ih =>
      rintro listed a x hs ⟨hr, hq⟩
      by_cases hr0 : Region.ready .any (l.take n).toArray listed = []
      · exact fin (f + 1) listed a x hs (fun i hi => all_up H (by simp [hs]; omega) hr0 i (by simp; omega)) (hr hr0)
      · have hnn : ∀ i, i ∈ Region.ready .any l.toArray (listed.push false) → i < n := by
          intro i hi
          obtain ⟨h1, o, ho, h2⟩ := mem_ready.1 hi
          have hlt : i < l.length := by simpa using lt_of_some ho
          rcases Nat.lt_or_ge i n with h | h
          · exact h
          · have hin : i = n := by omega
            subst hin
            exfalso
            obtain ⟨j, hj⟩ := List.exists_mem_of_ne_nil _ hr0
            obtain ⟨h3, o3, ho3, -⟩ := mem_ready.1 hj
            have hji : j < i := by
              rcases Nat.lt_or_ge j i with h | h
              · exact h
              · rw [getn j h] at ho3; cases ho3
            have hzo : o = oz := by
              rw [show l.toArray[i]? = l[i]? by simp, hz] at ho
              exact (Option.some.inj ho).symm
            subst hzo
            have h4 := List.all_eq_true.1 hA j (List.mem_range.2 hji)
            obtain ⟨e, he, hb⟩ := Array.any_eq_true'.1 h4
            simp only [Bool.and_eq_true, beq_iff_eq] at hb
            have h5 := h2 e he hb.1
            rw [hb.2, pushD _ _ _ _ hs hji] at h5
            rw [Array.getD_eq_getD_getElem?, Array.getElem?_eq_getElem (by omega)] at h3 h5
            simp only [Option.getD_some] at h3 h5
            rw [h3] at h5
            cases h5
        refine ⟨fun h0 => ?_, fun i hi => ?_⟩
        · exfalso
          obtain ⟨j, hj⟩ := List.exists_mem_of_ne_nil _ hr0
          have hji : j < n := by
            obtain ⟨h3, o3, ho3, -⟩ := mem_ready.1 hj
            rcases Nat.lt_or_ge j n with h | h
            · exact h
            · rw [getn j h] at ho3; cases ho3
          have := (rdy listed false j hs hji).2 hj
          rw [h0] at this
          cases this
        · have hin := hnn i hi
          have hi0 := (rdy listed false i hs hin).1 hi
          have h6 := hq i hi0
          obtain ⟨-, o, ho, -⟩ := mem_ready.1 hi0
          have hol : l.toArray[i]? = some o := (get0 i hin).symm.trans ho
          have hg := hgn i o (by simpa using hol)
          unfold wpOp at h6 ⊢
          simp only [ho] at h6
          simp only [hol]
          have hw1 : ∀ y, Region.wanted o y = true := fun y => by unfold Region.wanted; rw [hg]
          rw [if_pos (hw1 _)] at h6
          rw [if_pos (hw1 _)]
          have hset : (listed.push false).setIfInBounds i true = (listed.setIfInBounds i true).push false := by
            apply Array.ext_getElem?
            intro j
            rw [Array.getElem?_setIfInBounds, Array.getElem?_push, Array.getElem?_push, Array.getElem?_setIfInBounds]
            simp only [Array.size_push, Array.size_setIfInBounds, hs]
            by_cases h : i = j
            · subst h; simp [hs, hin, Nat.lt_succ_of_lt hin, Nat.ne_of_lt hin]
            · simp [h]
          rw [hset]
          have hmono : ∀ a' x', wpAny P .any (l.take n).toArray (fun e a x => match e with | .normal => oz.wp P a x (fun a' x' => Q .normal a' x') Q | e => Q e a x) f (listed.setIfInBounds i true) a' x' → wpAny P .any l.toArray Q (f + 1) ((listed.setIfInBounds i true).push false) a' x' := fun a' x' h => ih _ a' x' (by simp [hs]) h
          rcases h6 with h6 | ⟨h6, h7⟩
          · left
            refine Oper.wp_mono hmono ?_
            unfold Oper.wp at h6 ⊢
            generalize (execOp a.eval o).run P x = r at *
            cases r with
            | ok nx w' =>
              cases nx with
              | enter f' args => exact (show Calls P f' args w' _ from h6).mono fun e w'' he => by cases e <;> exact he
              | _ => exact h6
            | halt v w' => cases v <;> exact h6
          · right
            exact ⟨h6, h7⟩
  have hpr : (Array.replicate (l.take n).toArray.size false).push false = Array.replicate l.toArray.size false := by
    rw [← Array.replicate_succ]
    congr 1
    simp
    omega
  have := gen _ _ _ _ (by simp; omega) h
  rw [hpr] at this
  refine wp_region_any hm ?_
  have e : (l.take n).toArray.size + 1 = l.toArray.size := by simp; omega
  rwa [e] at this
theorem any_mixC {Q : Exit → Act → World → Prop} {a0 : Act} {w : World} {l : List Oper} (w0 : World) (C : World → Prop) (sp : List Nat) (mk : Nat → Gh → Value) (J : (Nat → Bool) → (Nat → Gh) → World → Prop) (af : (Nat → Gh) → Act) 
    (hB : slotsOk l.toArray = true) (hB' : ∀ g, slotsOk (mixL sp mk g 0 l).toArray = true) (hS : Region.noSelect l.toArray = true) (hN : spB l.toArray sp = true) (hC0 : C w) (hCs : ∀ x x', C x → Below x.heap.size x x' → C x') (hCw : ∀ x, C x → Below w0.heap.size w0 x)
    (h0 : ∀ L, (∀ j ∈ sp, L j = false) → J L (fun _ => Gh.zero) w)
    (hst : ∀ L L' g x x', (∀ j ∈ sp, L' j = L j) → J L g x → Below x.heap.size x x' → J L' g x')
    (hq : ∀ g u, C u → (∀ (x : Grew u) (b o : Nat), b < u.heap.size → x.val.cell? ⟨b, o, none⟩ = u.cell? ⟨b, o, none⟩) → Hid (∀ x : Grew u, Below w0.heap.size w0 x.val) → Hid (∀ x : Grew u, C x.val) →
      wpQuiet P (mixL sp mk g 0 l).toArray (fun w' => ∃ x : Grew u, w' = x.val) (fun a' => a' = af g) (mixL sp mk g 0 l) a0)
    (hind : ∀ j ∈ sp, ∀ g h, maskL (coneS l.toArray j 0 l []) 0 (af g).tmps.toList = maskL (coneS l.toArray j 0 l []) 0 (af (upd g j h)).tmps.toList)
    (hsp : ∀ j ∈ sp, ∀ o, l[j]? = some o → ∀ (L : Nat → Bool) (g : Nat → Gh) (x : World), J L g x → C x → Below w0.heap.size w0 x → L j = false → (∀ e ∈ o.after, Region.binds .any e = true → L e.on = true) → (∀ (i : Nat) (o : Oper), l[i]? = some o → L i = true → ∀ e ∈ o.after, Region.binds .any e = true → L e.on = true) →
      Does P (fun v x' => C x' ∧ ((o.dst = none ∧ J (setL L j) g x') ∨ ∃ h, v = mk j h ∧ J (setL L j) (upd g j h) x')) ((execOp (af g).eval o).run P x))
    (hend : ∀ g x, J (fun _ => true) g x → C x → Below w0.heap.size w0 x → Q .normal (af g) x) :
    wpAny P .any l.toArray Q l.toArray.size (Array.replicate l.toArray.size false) a0 { w with drawn := w.drawn + 1 } := by
  have H := slotsOk_spec hB
  have H' := fun g => slotsOk_spec (hB' g)
  have hsel := Region.noSelect_spec hS
  have hgn : ∀ j ∈ sp, ∀ o, l.toArray[j]? = some o → o.guard = none := fun j hj o ho => by
    unfold spB at hN
    have := List.all_eq_true.1 hN j hj
    rw [ho] at this
    simpa using this
  have get' : ∀ g (j : Nat), (mixL sp mk g 0 l).toArray[j]? = (l.toArray[j]?).map fun o => if sp.contains j then yieldsC (mk j (g j)) o else o := fun g j => by
    have := mixL_get sp mk g l 0 j
    simpa using this
  have hdst : ∀ (g : Nat → Gh) (j : Nat) (o : Oper), (if sp.contains j = true then yieldsC (mk j (g j)) o else o).dst = o.dst := fun g j o => by split <;> rfl
  have hyd : ∀ (g : Nat → Gh) (t : Array Value) (k : Nat), yielded (mixL sp mk g 0 l).toArray t k = yielded l.toArray t k := fun g t k => by
    unfold yielded
    rw [get']
    cases l.toArray[k]? with
    | none => rfl
    | some o => simp only [Option.map_some, Option.bind_some, hdst]
  have hwt : ∀ (g : Nat → Gh) (o : Oper) (t : Array Value), Region.wanted o (yielded (mixL sp mk g 0 l).toArray t) = Region.wanted o (yielded l.toArray t) := fun g o t => by
    have : yielded (mixL sp mk g 0 l).toArray t = yielded l.toArray t := funext (hyd g t)
    rw [this]
  have hsel' : ∀ (g : Nat → Gh) (j : Nat) (o : Oper) cs b, (mixL sp mk g 0 l).toArray[j]? = some o → o.op ≠ .select cs b := fun g j o cs b ho => by
    rw [get'] at ho
    cases hj : l.toArray[j]? with
    | none => rw [hj] at ho; cases ho
    | some o' =>
      rw [hj] at ho
      simp only [Option.map_some, Option.some.injEq] at ho
      subst ho
      split
      · simp [yieldsC]
      · exact hsel j o' cs b hj
  have hfin := fun g u hu => fin_of_quiet (H' g) (hsel' g) (mixL sp mk g 0 l) 0 a0 (fun j => by simp) (hq g u hu (fun x => x.cell) (fun x => hCw _ (hCs _ _ hu x.ok)) (fun x => hCs _ _ hu x.ok))
  have hsz : ∀ g, a0.tmps.size = (af g).tmps.size := fun g => (hfin g w hC0).2.1
  have hdf : ∀ g, a0.defers = (af g).defers := fun g => (hfin g w hC0).2.2.1
  have hun : ∀ (g : Nat → Gh) (s : Nat), (∀ (j : Nat) (oj : Oper), l.toArray[j]? = some oj → oj.dst ≠ some s) → a0.tmps[s]? = (af g).tmps[s]? := fun g s hs => (hfin g w hC0).2.2.2 s fun j oj _ hj hd => by
    rw [get'] at hj
    cases hjj : l.toArray[j]? with
    | none => rw [hjj] at hj; cases hj
    | some o' =>
      rw [hjj] at hj
      simp only [Option.map_some, Option.some.injEq] at hj
      exact hs j o' hjj (by rw [← hd, ← hj]; exact (hdst g j o').symm)
  have hquiet : ∀ (g : Nat → Gh) (i : Nat) (o : Oper), i ∉ sp → l.toArray[i]? = some o → ∀ u, C u → ∃ v, YieldsIn P l.toArray (above u) o v (af g) ∧ ∀ s, o.dst = some s → s < (af g).tmps.size → (af g).tmps[s]? = some v := by
    intro g i o hi ho u hu
    have hc : sp.contains i = false := by simpa using hi
    have ho' : (mixL sp mk g 0 l).toArray[i]? = some o := by
      rw [get', ho]
      simp [hi]
    obtain ⟨v, hy, hv⟩ := (hfin g u hu).1 i o (Nat.zero_le _) ho'
    refine ⟨v, ?_, hv⟩
    rw [above_grew]
    unfold YieldsIn at *
    rwa [hwt] at hy
  have hres : ∀ (g : Nat → Gh) (j : Nat) (o : Oper) (d : Nat), j ∈ sp → l.toArray[j]? = some o → o.dst = some d → d < (af g).tmps.size → (af g).tmps[d]? = some (mk j (g j)) := by
    intro g j o d hj ho hd hlt
    have hc : sp.contains j = true := by simpa using hj
    have ho' : (mixL sp mk g 0 l).toArray[j]? = some (yieldsC (mk j (g j)) o) := by
      rw [get', ho]
      simp [hj]
    obtain ⟨v, hy, hv⟩ := (hfin g w hC0).1 j _ (Nat.zero_le _) ho'
    have := hv d hd hlt
    rw [this]
    rcases hy with ⟨_, h2⟩ | ⟨h1, _⟩
    · have h3 := h2 w ⟨⟨w, Below.refl _ _⟩, rfl⟩
      unfold Oper.quietAt at h3
      have h4 : (execOp (af g).eval (yieldsC (mk j (g j)) o)).run P w = .ok (.value (mk j (g j))) w := by unfold execOp yieldsC; rfl
      rw [h4] at h3
      simp only [Oper.quietUpon] at h3
      rw [h3.2]
    · unfold Region.wanted at h1
      rw [show (yieldsC (mk j (g j)) o).guard = none from hgn j hj o ho] at h1
      cases h1
  have hcone : ∀ (L : Nat → Bool), (∀ (i : Nat) (o : Oper), l.toArray[i]? = some o → L i = true → ∀ e ∈ o.after, Region.binds .any e = true → L e.on = true) → ∀ j, L j = false → ∀ d ∈ coneS l.toArray j 0 l [], ∃ (i : Nat) (o : Oper), l.toArray[i]? = some o ∧ o.dst = some d ∧ L i = false := by
    intro L hcl j hj
    refine coneS_spec (G := fun d => ∃ (i : Nat) (o : Oper), l.toArray[i]? = some o ∧ o.dst = some d ∧ L i = false) ?_ l 0 [] (fun k => by simp) (fun d hd => by simp at hd)
    intro i o d ho hd hor
    refine ⟨i, o, ho, hd, ?_⟩
    rcases hor with rfl | ⟨s, hs, i', o', ho', hd', hL⟩
    · exact hj
    · obtain ⟨_, e, he, hb, hon⟩ := H.look i o s i' o' ho hs ho' hd'
      cases hLi : L i with
      | false => rfl
      | true =>
        have := hcl i o ho hLi e he hb
        rw [hon, hL] at this
        cases this
  have hone : ∀ (listed : Array Bool) (a : Act) (x : World), listed.size = l.toArray.size → MixInv l.toArray C J af listed a x → Region.ready .any l.toArray listed = [] → Q .normal a x := by
    rintro listed a x hz ⟨hb, -, g, hag, hJ⟩ hr
    have hu := all_up H hz hr
    rw [agree_all hag hu]
    have : (fun j => listed.getD j true) = fun _ => true := funext fun j => by
      by_cases hj : j < l.toArray.size
      · exact hu j hj
      · simp [Array.getElem?_eq_none (show listed.size ≤ j by omega)]
    rw [this] at hJ
    exact hend g x hJ hb (hCw _ hb)
  have hstep : ∀ (listed : Array Bool) (a : Act) (x : World) (i : Nat), i ∈ Region.ready .any l.toArray listed → MixInv l.toArray C J af listed a x → wpOp P l.toArray Q i (fun a' x' => MixInv l.toArray C J af (listed.setIfInBounds i true) a' x') a x := by
    rintro listed a x i hi ⟨hb, hcl, g, hag, hJ⟩
    obtain ⟨hiu, o, ho, hall⟩ := mem_ready.1 hi
    have hlk := agree_look H hag ho hi
    have hcl' : ∀ (i' : Nat) (o' : Oper), l.toArray[i']? = some o' → (listed.setIfInBounds i true).getD i' true = true → ∀ e ∈ o'.after, Region.binds .any e = true → (listed.setIfInBounds i true).getD e.on true = true := by
      intro i' o' ho' hL e he hbd
      have key : listed.getD e.on true = true := by
        by_cases hii : i = i'
        · subst hii
          obtain rfl : o = o' := Option.some.inj (ho.symm.trans ho')
          exact getD_tt (hall e he hbd)
        · rw [getD_set_ne true hii] at hL
          exact hcl i' o' ho' hL e he hbd
      by_cases hon : i = e.on
      · rw [hon, set_self]
      · rw [getD_set_ne true hon]; exact key
    by_cases hisp : i ∈ sp
    · have hg := hgn i hisp o ho
      have hd := hsp i hisp o (by simpa using ho) _ g x hJ hb (hCw _ hb) hiu (fun e he hbd => getD_tt (hall e he hbd)) (fun i' o' ho' => hcl i' o' (by simpa using ho'))
      rw [← exec_same (hsel i o · · ho) hlk] at hd
      unfold wpOp
      simp only [ho]
      have hwn : Region.wanted o (yielded l.toArray a.tmps) = true := by unfold Region.wanted; rw [hg]
      rw [if_pos hwn]
      refine .inl (wp_does hd ?_)
      rintro v x' ⟨hb', hK⟩
      refine ⟨hb', hcl', ?_⟩
      rw [setL_listed]
      rcases hK with ⟨hdn, hJ'⟩ | ⟨h, rfl, hJ'⟩
      · exact ⟨g, agree_put H hag ho (fun s hs => by rw [hdn] at hs; cases hs), hJ'⟩
      · refine ⟨upd g i h, ⟨by rw [put_size]; exact hag.1.trans ((hsz g).symm.trans (hsz _)), by rw [put_defers]; exact hag.2.1.trans ((hdf g).symm.trans (hdf _)), fun s hs => ?_⟩, hJ'⟩
        by_cases hds : o.dst = some s
        · rw [hds]
          by_cases hlt : s < (af (upd g i h)).tmps.size
          · rw [put_at (by rw [hag.1, ← hsz g, hsz (upd g i h)]; exact hlt), hres _ i o s hisp ho hds hlt]
            unfold upd
            rw [if_pos rfl]
          · rw [put_out (by rw [hag.1, ← hsz g, hsz (upd g i h)]; exact hlt), Array.getElem?_eq_none (by omega)]
        · rw [put_get hds]
          have hs' : ∀ (j : Nat) (oj : Oper), l.toArray[j]? = some oj → oj.dst = some s → listed.getD j true = true := fun j oj hj hdj => by
            have hij : i ≠ j := by
              rintro rfl
              obtain rfl : o = oj := Option.some.inj (ho.symm.trans hj)
              exact hds hdj
            have := hs j oj hj hdj
            rwa [getD_set_ne true hij] at this
          rw [hag.2.2 s hs']
          refine maskL_same (hind i hisp g h) fun hc => ?_
          obtain ⟨j, oj, hj, hdj, hL⟩ := hcone (fun j => listed.getD j true) hcl i hiu s hc
          have := hs' j oj hj hdj
          rw [this] at hL
          cases hL
    · obtain ⟨v, hy, hv⟩ := hquiet g i o hisp ho x hb
      have hy' := yields_same (hsel i o · · ho) (fun s hs => (hlk s hs).symm) hy
      refine wp_yields ho hy' (Below.refl _ _) fun x' hx' => ⟨hCs _ _ hb hx', hcl', g, agree_put H hag ho hv, ?_⟩
      refine hst _ _ g x x' (fun j hj => ?_) hJ hx'
      have hij : i ≠ j := by rintro rfl; exact hisp hj
      rw [getD_set_ne true hij]
  have hloop : ∀ (f : Nat) (listed : Array Bool) (a : Act) (x : World), listed.size = l.toArray.size → unlisted l.toArray.size listed ≤ f → MixInv l.toArray C J af listed a x → wpAny P .any l.toArray Q f listed a x := by
    intro f
    induction f with
    | zero =>
      intro listed a x hz hf h
      have hr : Region.ready .any l.toArray listed = [] := by
        rw [List.eq_nil_iff_forall_not_mem]
        intro i hi
        obtain ⟨hiu, o, ho, _⟩ := mem_ready.1 hi
        have := unlisted_set (n := l.toArray.size) (lt_of_some ho) hiu
        omega
      exact ⟨hr, hone listed a x hz h hr⟩
    | succ f ih =>
      intro listed a x hz hf h
      refine ⟨fun hr => hone listed a x hz h hr, fun i hi => ?_⟩
      obtain ⟨hiu, o, ho, _⟩ := mem_ready.1 hi
      have hl := unlisted_set (n := l.toArray.size) (lt_of_some ho) hiu
      exact wpOp_mono (fun a' x' h' => ih _ a' x' (by simpa using hz) (by omega) h') (hstep listed a x i hi h)
  have hL0 : ∀ j, j < l.length → (Array.replicate l.toArray.size false).getD j true = false := fun j hj => by simp [hj]
  refine hloop _ _ _ _ (by simp) ?_ ⟨hCs _ _ hC0 (Below.refl _ w).drew, fun i o ho hL => ?_, fun _ => Gh.zero, ⟨hsz _, hdf _, fun s hs => ?_⟩, ?_⟩
  · unfold unlisted
    exact Nat.le_trans (List.length_filter_le _ _) (by simp)
  · have hlt := lt_of_some ho
    simp only [List.size_toArray] at hlt
    rw [hL0 i hlt] at hL
    cases hL
  · refine hun _ s fun j oj hj hd => ?_
    have := hs j oj hj hd
    have hlt := lt_of_some hj
    simp only [List.size_toArray] at hlt
    rw [hL0 j hlt] at this
    cases this
  · refine hst _ _ _ w _ (fun _ _ => rfl) (h0 _ fun j hj => ?_) (Below.refl _ w).drew
    have : ∃ o, l.toArray[j]? = some o := by
      unfold spB at hN
      have := List.all_eq_true.1 hN j hj
      cases ho : l.toArray[j]? with
      | none => rw [ho] at this; cases this
      | some o => exact ⟨o, rfl⟩
    obtain ⟨o, ho⟩ := this
    have hlt := lt_of_some ho
    simp only [List.size_toArray] at hlt
    exact hL0 j hlt
/-- What a region that draws its order asks, as a law of its own: special operations told by hand. -/
theorem region_mixL {id : Nat} {Q : Exit → Act → World → Prop} {a0 : Act} {w : World} {l : List Oper} (w0 : World) (C : World → Prop) (sp : List Nat) (mk : Nat → Gh → Value) (J : (Nat → Bool) → (Nat → Gh) → World → Prop) (af : (Nat → Gh) → Act) (hm : P.follows .mixedOrders = true)
    (hB : slotsOk l.toArray = true) (hB' : ∀ g, slotsOk (mixL sp mk g 0 l).toArray = true) (hS : Region.noSelect l.toArray = true) (hN : spB l.toArray sp = true) (hC0 : C w) (hCs : ∀ x x', C x → Below x.heap.size x x' → C x') (hCw : ∀ x, C x → Below w0.heap.size w0 x)
    (h0 : ∀ L, (∀ j ∈ sp, L j = false) → J L (fun _ => Gh.zero) w)
    (hst : ∀ L L' g x x', (∀ j ∈ sp, L' j = L j) → J L g x → Below x.heap.size x x' → J L' g x')
    (hq : ∀ g u, C u → (∀ (x : Grew u) (b o : Nat), b < u.heap.size → x.val.cell? ⟨b, o, none⟩ = u.cell? ⟨b, o, none⟩) → Hid (∀ x : Grew u, Below w0.heap.size w0 x.val) → Hid (∀ x : Grew u, C x.val) →
      wpQuiet P (mixL sp mk g 0 l).toArray (fun w' => ∃ x : Grew u, w' = x.val) (fun a' => a' = af g) (mixL sp mk g 0 l) a0)
    (hind : ∀ j ∈ sp, ∀ g h, maskL (coneS l.toArray j 0 l []) 0 (af g).tmps.toList = maskL (coneS l.toArray j 0 l []) 0 (af (upd g j h)).tmps.toList)
    (hsp : ∀ j ∈ sp, ∀ o, l[j]? = some o → ∀ (L : Nat → Bool) (g : Nat → Gh) (x : World), J L g x → C x → Below w0.heap.size w0 x → L j = false → (∀ e ∈ o.after, Region.binds .any e = true → L e.on = true) → (∀ (i : Nat) (o : Oper), l[i]? = some o → L i = true → ∀ e ∈ o.after, Region.binds .any e = true → L e.on = true) →
      Does P (fun v x' => C x' ∧ ((o.dst = none ∧ J (setL L j) g x') ∨ ∃ h, v = mk j h ∧ J (setL L j) (upd g j h) x')) ((execOp (af g).eval o).run P x))
    (hend : ∀ g x, J (fun _ => true) g x → C x → Below w0.heap.size w0 x → Q .normal (af g) x) :
    (Code.region id l.toArray true).wp P Q a0 w := wp_region_any hm (any_mixC w0 C sp mk J af hB hB' hS hN hC0 hCs hCw h0 hst hq hind hsp hend)
end
end Go.Proofs
