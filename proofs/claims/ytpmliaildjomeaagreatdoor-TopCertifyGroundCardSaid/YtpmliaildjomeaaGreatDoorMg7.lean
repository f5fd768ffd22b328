import Derived.Test.YtpmliaildjomeaaGreatDoorMg6
import Derived.Test.YtpmliaildjomeaaGreatDoorMg3
import Derived.BigQuiet
set_option linter.unusedSimpArgs false
set_option linter.unusedVariables false
namespace Go.Proofs
open Go.RowKit

/-! A book in memory. -/
structure Pa where
  nm : ByteArray
  a0 : Int
  a1 : Int
  c0 : Int
  c1 : Int
def Pa.cs (p : Pa) : List Value := [.string p.nm, .int .i64 p.a0, .int .i64 p.a1, .int .i64 p.c0, .int .i64 p.c1]
structure En where
  nm : ByteArray
  A : Option Addr
  c : Nat
  co : List Int
  mo : Int
def En.cs (x : En) : List Value := [.string x.nm, .slice x.A x.co.length x.c, .int .i64 x.mo]
def En.ex (x : En) : Ex := (x.co, x.mo)
def EnsAt (w : World) (A : Option Addr) (es : List En) : Prop := At 3 En.cs w A es ∧ ∀ x ∈ es, At 1 Zc w x.A x.co
theorem EnsAt.below {w w' : World} {A : Option Addr} {es : List En} (h : EnsAt w A es) (hb : Below w.heap.size w w') : EnsAt w' A es := ⟨h.1.below hb, fun x hx => (h.2 x hx).below hb⟩
/-- The cell of a list of numbers. -/
theorem zc_cell {w : World} {A : Option Addr} {l : List Int} (h : At 1 Zc w A l) {k : Nat} (hk : k < l.length) : ∃ b o, A = some ⟨b, o, none⟩ ∧ b < w.heap.size ∧ w.cell? ⟨b, o + k, none⟩ = some (.int .i64 (l.getD k 0)) := by
  obtain ⟨b, o, hA, hlt, hc⟩ := h k _ (List.getElem?_eq_getElem hk)
  refine ⟨b, o, hA, hlt, ?_⟩
  have := hc 0 _ rfl
  rw [List.getD_eq_getElem?_getD, List.getElem?_eq_getElem hk]
  simpa using this
/-- The numbers are at most K in size. -/
def Small (K : Nat) (l : List Int) : Prop := ∀ x ∈ l, x.natAbs ≤ K
theorem Small.get {K : Nat} {l : List Int} (h : Small K l) (k : Nat) : (l.getD k 0).natAbs ≤ K := by
  rw [List.getD_eq_getElem?_getD]
  cases hk : l[k]? with
  | none => exact Nat.zero_le _
  | some x => exact h x (List.mem_of_getElem? hk)
theorem Small.mono {K K' : Nat} {l : List Int} (h : Small K l) (hK : K ≤ K') : Small K' l := fun x hx => Nat.le_trans (h x hx) hK
theorem dotL_take : ∀ (a b : List Int) (k : Nat), k < a.length → k < b.length → dotL (a.take (k + 1)) (b.take (k + 1)) = dotL (a.take k) (b.take k) + a.getD k 0 * b.getD k 0
  | [], _, _, h, _ => by simp at h
  | _ :: _, [], _, _, h => by simp at h
  | x :: a, y :: b, 0, _, _ => by cases a <;> cases b <;> simp [dotL]
  | x :: a, y :: b, k + 1, h, h' => by
    simp only [List.take_succ_cons, dotL, List.getD_cons_succ]
    have := dotL_take a b k (by simpa using h) (by simpa using h')
    rw [this]
    omega
theorem dotL_bound {X Y : Nat} : ∀ (a b : List Int) (k : Nat), Small X a → Small Y b → (dotL (a.take k) (b.take k)).natAbs ≤ k * (X * Y)
  | [], b, k, _, _ => by simp [dotL]
  | _ :: _, [], k, _, _ => by simp [dotL]
  | _ :: _, _ :: _, 0, _, _ => by simp [dotL]
  | x :: a, y :: b, k + 1, ha, hb => by
    simp only [List.take_succ_cons, dotL]
    have h1 := abs_mul (ha x (by simp)) (hb y (by simp))
    have h2 := dotL_bound a b k (fun z hz => ha z (by simp [hz])) fun z hz => hb z (by simp [hz])
    rw [Nat.add_mul]
    omega
theorem dotL_all (a b : List Int) (h : a.length = b.length) : dotL (a.take a.length) (b.take a.length) = dotL a b := by rw [List.take_length, h, List.take_length]
theorem putsL_take (c : Nat) : ∀ (es : List Ex) (W : List Int) (k : Nat), k < es.length → k < W.length → putsL (es.take (k + 1)) (W.take (k + 1)) c = putsL (es.take k) (W.take k) c + W.getD k 0 * (es.getD k default).1.getD c 0
  | [], _, _, h, _ => by simp at h
  | _ :: _, [], _, _, h => by simp at h
  | x :: a, y :: b, 0, _, _ => by cases a <;> cases b <;> simp [putsL]
  | x :: a, y :: b, k + 1, h, h' => by
    simp only [List.take_succ_cons, putsL, List.getD_cons_succ]
    have := putsL_take c a b k (by simpa using h) (by simpa using h')
    rw [this]
    omega
theorem putsL_bound {X Y : Nat} (c : Nat) : ∀ (es : List Ex) (W : List Int) (k : Nat), (∀ x ∈ es, Small X x.1) → Small Y W → (putsL (es.take k) (W.take k) c).natAbs ≤ k * (Y * X)
  | [], b, k, _, _ => by simp [putsL]
  | _ :: _, [], k, _, _ => by simp [putsL]
  | _ :: _, _ :: _, 0, _, _ => by simp [putsL]
  | x :: a, y :: b, k + 1, ha, hb => by
    simp only [List.take_succ_cons, putsL]
    have h1 := abs_mul (hb y (by simp)) ((ha x (by simp)).get c)
    have h2 := putsL_bound c a b k (fun z hz => ha z (by simp [hz])) fun z hz => hb z (by simp [hz])
    rw [Nat.add_mul]
    omega
theorem spentL_take : ∀ (es : List Ex) (W : List Int) (k : Nat), k < es.length → k < W.length → spentL (es.take (k + 1)) (W.take (k + 1)) = spentL (es.take k) (W.take k) + W.getD k 0 * (es.getD k default).2
  | [], _, _, h, _ => by simp at h
  | _ :: _, [], _, _, h => by simp at h
  | x :: a, y :: b, 0, _, _ => by cases a <;> cases b <;> simp [spentL]
  | x :: a, y :: b, k + 1, h, h' => by
    simp only [List.take_succ_cons, spentL, List.getD_cons_succ]
    have := spentL_take a b k (by simpa using h) (by simpa using h')
    rw [this]
    omega
theorem spentL_bound {X Y : Nat} : ∀ (es : List Ex) (W : List Int) (k : Nat), (∀ x ∈ es, x.2.natAbs ≤ X) → Small Y W → (spentL (es.take k) (W.take k)).natAbs ≤ k * (Y * X)
  | [], b, k, _, _ => by simp [spentL]
  | _ :: _, [], k, _, _ => by simp [spentL]
  | _ :: _, _ :: _, 0, _, _ => by simp [spentL]
  | x :: a, y :: b, k + 1, ha, hb => by
    simp only [List.take_succ_cons, spentL]
    have h1 := abs_mul (hb y (by simp)) (ha x (by simp))
    have h2 := spentL_bound a b k (fun z hz => ha z (by simp [hz])) fun z hz => hb z (by simp [hz])
    rw [Nat.add_mul]
    omega
end Go.Proofs

set_option linter.unusedSimpArgs false
set_option linter.unusedVariables false
namespace Go.Proofs
open Go.RowKit

theorem nat_top {K x k n : Nat} (h : x ≤ k * K) (hk : k ≤ n) : x ≤ n * K := Nat.le_trans h (Nat.mul_le_mul_right _ hk)
set_option maxRecDepth 100000 in
set_option maxHeartbeats 2000000 in
theorem dot_any (A B : Option Addr) (a b : List Int) (ca cb : Nat) (w : World) (hA : At 1 Zc w A a) (hB : At 1 Zc w B b) (hl : a.length = b.length) (h8 : a.length ≤ 8) (X Y : Nat) (hXY : 8 * (X * Y) ≤ 9000000000000000000) (sa : Small X a) (sb : Small Y b) :
    Calls Tryz.prog 58 #[.slice A a.length ca, .slice B b.length cb] w fun e w' => e = .returned (.int .i64 (dotL a b)) ∧ w = w' := by
  have hall := Lib.hid (dotL_all a b hl)
  have htake := Lib.hid fun k hk => dotL_take a b k hk (by rw [← hl]; exact hk)
  have hbd := Lib.hid fun k => dotL_bound (X := X) (Y := Y) a b k sa sb
  have gA := Lib.hid fun k (hk : k < a.length) => zc_cell hA hk
  have gB := Lib.hid fun k (hk : k < a.length) => zc_cell (w := w) hB (k := k) (by rw [← hl]; exact hk)
  have ga := Lib.hid sa.get
  have hXY := Lib.hid hXY
  have gb := Lib.hid sb.get
  obtain ⟨N, hN⟩ : ∃ N, a.length = N := ⟨_, rfl⟩
  rw [hN] at hall htake h8 gA gB ⊢
  rw [← hl, hN]
  clear hA hB hl hN sa sb
  obtain ⟨S, hS⟩ : ∃ S : Nat → Int, (fun k => dotL (a.take k) (b.take k)) = S := ⟨_, rfl⟩
  have hSk : ∀ k, dotL (a.take k) (b.take k) = S k := fun k => by rw [← hS]
  have hS0 : S 0 = 0 := by rw [← hS]; cases a <;> cases b <;> simp [dotL]
  simp only [hSk] at hall htake hbd
  obtain ⟨R, hR⟩ : ∃ R, dotL a b = R := ⟨_, rfl⟩
  rw [hR] at hall ⊢
  clear hS hSk hR
  have hall' := hall
  go_enter Tryz.func58, Tryz.ntmps58
  go_wp2
  go_loopw [5, 10] (fun s i wr => ∃ k : Nat, k ≤ N ∧ i = .int .i64 k ∧ s = .int .i64 (S k) ∧ w = wr) (fun _ i _ => N - (intOf i).toNat)
  case atStart => exact ⟨0, Nat.zero_le _, rfl, by rw [hS0], rfl⟩
  case round =>
    obtain ⟨k, hk, rfl, rfl, rfl⟩ := hrel
    by_cases hlt : k < N
    · have hkI : (k : Int) < (N : Int) := by omega
      obtain ⟨b1, o1, hA1, -, c1⟩ := gA.out k hlt
      obtain ⟨b2, o2, hB1, -, c2⟩ := gB.out k hlt
      subst hA1
      subst hB1
      have ht := htake.out k hlt
      have hm := abs_mul (ga.out k) (gb.out k)
      have hb1 := nat_top (hbd.out k) hk
      have hb2 := nat_top (hbd.out (k + 1)) hlt
      obtain ⟨x, hx⟩ : ∃ x, a.getD k 0 = x := ⟨_, rfl⟩
      obtain ⟨y, hy⟩ : ∃ y, b.getD k 0 = y := ⟨_, rfl⟩
      rw [hx] at c1 ht hm
      rw [hy] at c2 ht hm
      obtain ⟨z, hz⟩ : ∃ z, x * y = z := ⟨_, rfl⟩
      rw [hz] at ht hm
      have h9 := Nat.mul_le_mul_right (X * Y) h8
      have h10 := hXY.out
      obtain ⟨XY, hxy⟩ : ∃ XY, X * Y = XY := ⟨_, rfl⟩
      rw [hxy] at hm hb1 hb2 h9 h10
      have hw1 : IntKind.i64.wrap (x * y) = z := by rw [hz]; exact IntWalk.i64_in _ (by omega)
      have hw2 : IntKind.i64.wrap (S k + z) = S (k + 1) := by rw [← ht]; exact IntWalk.i64_in _ (by omega)
      clear hz ht hm hb1 hb2 hx hy h9 h10 hxy
      go_wp2
      go_roundw
      case rel => exact ⟨k + 1, by omega, by go_num, rfl, by trivial⟩
      case measure => first | (simp [intOf]; done) | (simp [intOf]; omega)
    · obtain rfl : k = N := by omega
      have e : S k = R := hall.out
      clear hlt
      go_wp2
      go_ret
      exact ⟨ret_int e, rfl⟩
end Go.Proofs

set_option linter.unusedSimpArgs false
set_option linter.unusedVariables false
namespace Go.Proofs
open Go.RowKit

/-- What is known of the entries of a right book, and of weights. -/
structure RightE (es : List En) (np : Nat) : Prop where
  n8 : es.length ≤ 8
  co : ∀ x ∈ es, x.co.length = np ∧ Small 20 x.co ∧ x.mo.natAbs ≤ 20
def exs (es : List En) : List Ex := es.map En.ex
theorem exs_get {es : List En} {k : Nat} {x : En} (h : es[k]? = some x) : (exs es).getD k default = (x.co, x.mo) := by
  simp [exs, List.getD_eq_getElem?_getD, h, En.ex]
theorem RightE.exs_co {es : List En} {np : Nat} (h : RightE es np) : ∀ x ∈ exs es, Small 20 x.1 := fun x hx => by
  obtain ⟨y, hy, rfl⟩ := List.mem_map.1 hx
  exact (h.co y hy).2.1
theorem RightE.exs_mo {es : List En} {np : Nat} (h : RightE es np) : ∀ x ∈ exs es, x.2.natAbs ≤ 20 := fun x hx => by
  obtain ⟨y, hy, rfl⟩ := List.mem_map.1 hx
  exact (h.co y hy).2.2
theorem exs_len (es : List En) : (exs es).length = es.length := List.length_map ..
set_option maxRecDepth 100000 in
set_option maxHeartbeats 2000000 in
theorem puts_any (pA eA wA : Option Addr) (pn pc ec wc np : Nat) (es : List En) (W : List Int) (den lev : Int) (c : Nat) (w : World) (hR : RightE es np) (hE : EnsAt w eA es) (hW : At 1 Zc w wA W) (hl : W.length = es.length) (hc : c < np) (sW : Small 10000000000000000 W) :
    Calls Tryz.prog 79 #[.agg #[.slice pA pn pc, .slice eA es.length ec], .agg #[.int .i64 den, .int .i64 lev, .slice wA W.length wc], .int .i64 c] w fun e w' => e = .returned (.int .i64 (putsL (exs es) W c)) ∧ Below w.heap.size w w' := by
  have h8 := hR.n8
  have htake := Lib.hid fun k hk => putsL_take c (exs es) W k (by rw [exs_len]; exact hk) (by rw [hl]; exact hk)
  have hbd := Lib.hid fun k => putsL_bound (X := 20) (Y := 10000000000000000) c (exs es) W k hR.exs_co sW
  have hall := Lib.hid (show putsL ((exs es).take es.length) (W.take es.length) c = putsL (exs es) W c by rw [← exs_len, List.take_length, exs_len, ← hl, List.take_length])
  have gE := Lib.hid fun W' (hb : Below w.heap.size w W') k (hk : k < es.length) => (by
    obtain ⟨b, o, hA, hlt, hcc⟩ := (hE.below hb).1 k _ (List.getElem?_eq_getElem hk)
    have hx := List.getElem_mem hk
    obtain ⟨h1, h2, -⟩ := hR.co _ hx
    obtain ⟨b2, o2, hA2, hlt2, hc2⟩ := zc_cell ((hE.below hb).2 _ hx) (k := c) (by omega)
    refine ⟨es[k], b, o, b2, o2, hA, hlt, hlt2, hA2, h1, ?_, ?_, ?_, hc2, h2.get c, exs_get (List.getElem?_eq_getElem hk)⟩
    · simpa using hcc 0 _ rfl
    · have := hcc 1 _ rfl
      rw [hA2] at this
      exact this
    · exact hcc 2 _ rfl :
    ∃ x : En, ∃ b o b2 o2, eA = some ⟨b, o, none⟩ ∧ b < W'.heap.size ∧ b2 < W'.heap.size ∧ x.A = some ⟨b2, o2, none⟩ ∧ x.co.length = np ∧ W'.cell? ⟨b, o + k * 3, none⟩ = some (.string x.nm) ∧ W'.cell? ⟨b, o + k * 3 + 1, none⟩ = some (.slice (some ⟨b2, o2, none⟩) x.co.length x.c) ∧
      W'.cell? ⟨b, o + k * 3 + 2, none⟩ = some (.int .i64 x.mo) ∧ W'.cell? ⟨b2, o2 + c, none⟩ = some (.int .i64 (x.co.getD c 0)) ∧ (x.co.getD c 0).natAbs ≤ 20 ∧ (exs es).getD k default = (x.co, x.mo))
  have gW := Lib.hid fun W' (hb : Below w.heap.size w W') k (hk : k < es.length) => zc_cell (hW.below hb) (k := k) (by omega)
  have sw := Lib.hid sW.get
  obtain ⟨N, hN⟩ : ∃ N, es.length = N := ⟨_, rfl⟩
  rw [hl, hN]
  rw [hN] at htake hall gE gW h8
  obtain ⟨S, hS⟩ : ∃ S : Nat → Int, (fun k => putsL ((exs es).take k) (W.take k) c) = S := ⟨_, rfl⟩
  have hSk : ∀ k, putsL ((exs es).take k) (W.take k) c = S k := fun k => by rw [← hS]
  have hS0 : S 0 = 0 := by rw [← hS]; cases es <;> cases W <;> simp [putsL, exs]
  simp only [exs_len, hN, hSk] at hall htake hbd
  obtain ⟨R, hR'⟩ : ∃ R, putsL (exs es) W c = R := ⟨_, rfl⟩
  rw [hR'] at hall ⊢
  clear hE hW hl sW hS hSk hR' hR hN
  go_enter Tryz.func79, Tryz.ntmps79
  go_wp2
  go_loopw [7, 13] (fun s i wr => ∃ k : Nat, k ≤ N ∧ i = .int .i64 k ∧ s = .int .i64 (S k) ∧ wr.heap[w.heap.size]? = some (.cells #[.slice pA pn pc, .slice eA N ec] 25 (0, 0)) ∧ wr.heap[w.heap.size + 1]? = some (.cells #[.int .i64 den, .int .i64 lev, .slice wA N wc] 35 (0, 0)) ∧ Below w.heap.size w wr) (fun _ i _ => N - (intOf i).toNat)
  case atStart => exact ⟨0, Nat.zero_le _, rfl, by rw [hS0], by (repeat (first | assumption | (refine bk_new _ _ ?_; (simp; done)) | refine bk_drew ?_ | refine bk_alloc ?_ _ | refine bk_set ?_ (by simp <;> omega) _)), by (repeat (first | assumption | (refine bk_new _ _ ?_; (simp; done)) | refine bk_drew ?_ | refine bk_alloc ?_ _ | refine bk_set ?_ (by simp <;> omega) _)), by go_grown⟩
  case round =>
    obtain ⟨k, hk, rfl, rfl, m0, m1, hbw⟩ := hrel
    have C0 := bk2 m0
    have C1 := bk3 m1
    by_cases hlt : k < N
    · have hkI : (k : Int) < (N : Int) := by omega
      obtain ⟨x, b, o, b2, o2, hA1, hs1, hs2, hA2, hnp, c0, c1, c2, c3, hsx, hg⟩ := gE.out wr hbw k hlt
      obtain ⟨b3, o3, hA3, hs3, c4⟩ := gW.out wr hbw k hlt
      subst hA1
      subst hA3
      have ht := htake.out k hlt
      rw [hg] at ht
      have hm := abs_mul (sw.out k) hsx
      have hb1 := nat_top (hbd.out k) hk
      have hb2 := nat_top (hbd.out (k + 1)) hlt
      have h9 := Nat.mul_le_mul_right (10000000000000000 * 20) h8
      have hcI : (c : Int) < (x.co.length : Int) := by omega
      obtain ⟨u, hu⟩ : ∃ u, W.getD k 0 = u := ⟨_, rfl⟩
      obtain ⟨v, hv⟩ : ∃ v, x.co.getD c 0 = v := ⟨_, rfl⟩
      rw [hu] at c4 ht hm
      dsimp only at ht
      rw [hv] at c3 ht hm
      obtain ⟨z, hz⟩ : ∃ z, u * v = z := ⟨_, rfl⟩
      rw [hz] at ht hm
      have hw1 : IntKind.i64.wrap (u * v) = z := by rw [hz]; exact IntWalk.i64_in _ (by omega)
      have hw2 : IntKind.i64.wrap (S k + z) = S (k + 1) := by rw [← ht]; exact IntWalk.i64_in _ (by omega)
      generalize x.co.length = L at *
      clear hz ht hm hb1 hb2 hu hv h9 hsx hg hA2 hnp
      go_wp2
      refine region_all w (by kernel_rfl) (by kernel_rfl) (by go_grown) ?_
      intro hgc hbx
      repeat (go_big_quiet_step (fail))
      refine wpQuiet_nil ?_
      intro wb hb_wb hw_wb hs_wb
      clear hgc hbx
      simp only [World.size_alloc] at hs_wb
      have n0 := bk_keep hb_wb (bk_alloc m0 _)
      have n1 := bk_keep hb_wb (bk_alloc m1 _)
      clear m0 m1 C0 C1 c0 c1 c2 c3 c4
      go_wp2
      go_roundw
      case rel => exact ⟨k + 1, by omega, by go_num, rfl, n0, n1, hw_wb⟩
      case measure => first | (simp [intOf]; done) | (simp [intOf]; omega)
    · obtain rfl : k = N := by omega
      have e : S k = R := hall.out
      clear hlt
      go_wp2
      go_ret
      exact ⟨ret_int e, hbw⟩
set_option maxRecDepth 100000 in
set_option maxHeartbeats 2000000 in
theorem spent_any (pA eA wA : Option Addr) (pn pc ec wc np : Nat) (es : List En) (W : List Int) (den lev : Int) (w : World) (hR : RightE es np) (hE : EnsAt w eA es) (hW : At 1 Zc w wA W) (hl : W.length = es.length) (sW : Small 10000000000000000 W) :
    Calls Tryz.prog 80 #[.agg #[.slice pA pn pc, .slice eA es.length ec], .agg #[.int .i64 den, .int .i64 lev, .slice wA W.length wc]] w fun e w' => e = .returned (.int .i64 (spentL (exs es) W)) ∧ Below w.heap.size w w' := by
  have h8 := hR.n8
  have htake := Lib.hid fun k hk => spentL_take (exs es) W k (by rw [exs_len]; exact hk) (by rw [hl]; exact hk)
  have hbd := Lib.hid fun k => spentL_bound (X := 20) (Y := 10000000000000000) (exs es) W k hR.exs_mo sW
  have hall := Lib.hid (show spentL ((exs es).take es.length) (W.take es.length) = spentL (exs es) W by rw [← exs_len, List.take_length, exs_len, ← hl, List.take_length])
  have gE := Lib.hid fun W' (hb : Below w.heap.size w W') k (hk : k < es.length) => (by
    obtain ⟨b, o, hA, hlt, hcc⟩ := (hE.below hb).1 k _ (List.getElem?_eq_getElem hk)
    have hx := List.getElem_mem hk
    obtain ⟨h1, h2, -⟩ := hR.co _ hx
    have hm := (hR.co _ hx).2.2
    refine ⟨es[k], b, o, hA, hlt, ?_, ?_, ?_, hm, exs_get (List.getElem?_eq_getElem hk)⟩
    · simpa using hcc 0 _ rfl
    · exact hcc 1 _ rfl
    · exact hcc 2 _ rfl :
    ∃ x : En, ∃ b o, eA = some ⟨b, o, none⟩ ∧ b < W'.heap.size ∧ W'.cell? ⟨b, o + k * 3, none⟩ = some (.string x.nm) ∧ W'.cell? ⟨b, o + k * 3 + 1, none⟩ = some (.slice x.A x.co.length x.c) ∧
      W'.cell? ⟨b, o + k * 3 + 2, none⟩ = some (.int .i64 x.mo) ∧ x.mo.natAbs ≤ 20 ∧ (exs es).getD k default = (x.co, x.mo))
  have gW := Lib.hid fun W' (hb : Below w.heap.size w W') k (hk : k < es.length) => zc_cell (hW.below hb) (k := k) (by omega)
  have sw := Lib.hid sW.get
  obtain ⟨N, hN⟩ : ∃ N, es.length = N := ⟨_, rfl⟩
  rw [hl, hN]
  rw [hN] at htake hall gE gW h8
  obtain ⟨S, hS⟩ : ∃ S : Nat → Int, (fun k => spentL ((exs es).take k) (W.take k)) = S := ⟨_, rfl⟩
  have hSk : ∀ k, spentL ((exs es).take k) (W.take k) = S k := fun k => by rw [← hS]
  have hS0 : S 0 = 0 := by rw [← hS]; cases es <;> cases W <;> simp [spentL, exs]
  simp only [exs_len, hN, hSk] at hall htake hbd
  obtain ⟨R, hR'⟩ : ∃ R, spentL (exs es) W = R := ⟨_, rfl⟩
  rw [hR'] at hall ⊢
  clear hE hW hl sW hS hSk hR' hR hN
  go_enter Tryz.func80, Tryz.ntmps80
  go_wp2
  go_loopw [5, 11] (fun s i wr => ∃ k : Nat, k ≤ N ∧ i = .int .i64 k ∧ s = .int .i64 (S k) ∧ wr.heap[w.heap.size]? = some (.cells #[.slice pA pn pc, .slice eA N ec] 25 (0, 0)) ∧ wr.heap[w.heap.size + 1]? = some (.cells #[.int .i64 den, .int .i64 lev, .slice wA N wc] 35 (0, 0)) ∧ Below w.heap.size w wr) (fun _ i _ => N - (intOf i).toNat)
  case atStart => exact ⟨0, Nat.zero_le _, rfl, by rw [hS0], by (repeat (first | assumption | (refine bk_new _ _ ?_; (simp; done)) | refine bk_drew ?_ | refine bk_alloc ?_ _ | refine bk_set ?_ (by simp <;> omega) _)), by (repeat (first | assumption | (refine bk_new _ _ ?_; (simp; done)) | refine bk_drew ?_ | refine bk_alloc ?_ _ | refine bk_set ?_ (by simp <;> omega) _)), by go_grown⟩
  case round =>
    obtain ⟨k, hk, rfl, rfl, m0, m1, hbw⟩ := hrel
    have C0 := bk2 m0
    have C1 := bk3 m1
    by_cases hlt : k < N
    · have hkI : (k : Int) < (N : Int) := by omega
      obtain ⟨x, b, o, hA1, hs1, c0, c1, c2, hsx, hg⟩ := gE.out wr hbw k hlt
      obtain ⟨b3, o3, hA3, hs3, c4⟩ := gW.out wr hbw k hlt
      subst hA1
      subst hA3
      have ht := htake.out k hlt
      rw [hg] at ht
      have hm := abs_mul (sw.out k) hsx
      have hb1 := nat_top (hbd.out k) hk
      have hb2 := nat_top (hbd.out (k + 1)) hlt
      have h9 := Nat.mul_le_mul_right (10000000000000000 * 20) h8
      obtain ⟨u, hu⟩ : ∃ u, W.getD k 0 = u := ⟨_, rfl⟩
      obtain ⟨v, hv⟩ : ∃ v, x.mo = v := ⟨_, rfl⟩
      rw [hu] at c4 ht hm
      dsimp only at ht
      rw [hv] at c2 ht hm
      obtain ⟨z, hz⟩ : ∃ z, u * v = z := ⟨_, rfl⟩
      rw [hz] at ht hm
      have hw1 : IntKind.i64.wrap (u * v) = z := by rw [hz]; exact IntWalk.i64_in _ (by omega)
      have hw2 : IntKind.i64.wrap (S k + z) = S (k + 1) := by rw [← ht]; exact IntWalk.i64_in _ (by omega)
      generalize x.co.length = L at *
      clear hz ht hm hb1 hb2 hu hv h9 hsx hg
      go_wp2
      refine region_all w (by kernel_rfl) (by kernel_rfl) (by go_grown) ?_
      intro hgc hbx
      repeat (go_big_quiet_step (fail))
      refine wpQuiet_nil ?_
      intro wb hb_wb hw_wb hs_wb
      clear hgc hbx
      simp only [World.size_alloc] at hs_wb
      have n0 := bk_keep hb_wb (bk_alloc m0 _)
      have n1 := bk_keep hb_wb (bk_alloc m1 _)
      clear m0 m1 C0 C1 c0 c1 c2 c4
      go_wp2
      go_roundw
      case rel => exact ⟨k + 1, by omega, by go_num, rfl, n0, n1, hw_wb⟩
      case measure => first | (simp [intOf]; done) | (simp [intOf]; omega)
    · obtain rfl : k = N := by omega
      have e : S k = R := hall.out
      clear hlt
      go_wp2
      go_ret
      exact ⟨ret_int e, hbw⟩
end Go.Proofs
