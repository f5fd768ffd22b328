import Derived.Test.YtmnjoamkaapjcaaGreatMg2
set_option linter.unusedSimpArgs false
set_option linter.unusedVariables false
namespace Go.Proofs
open Go.RowKit

/-- The slice at 'A' holds the rows 'l', each of 'sz' cells. -/
def At {α : Type} (sz : Nat) (cs : α → List Value) (w : World) (A : Option Addr) (l : List α) : Prop :=
  ∀ k x, l[k]? = some x → ∃ b o, A = some ⟨b, o, none⟩ ∧ b < w.heap.size ∧ ∀ j v, (cs x)[j]? = some v → w.cell? ⟨b, o + k * sz + j, none⟩ = some v
theorem At.below {α : Type} {sz : Nat} {cs : α → List Value} {w w' : World} {A : Option Addr} {l : List α} (h : At sz cs w A l) (hb : Below w.heap.size w w') : At sz cs w' A l := by
  intro k x hx
  obtain ⟨b, o, hA, hlt, hc⟩ := h k x hx
  exact ⟨b, o, hA, Nat.lt_of_lt_of_le hlt hb.size, fun j v hv => (hb.cell (p := ⟨b, o + k * sz + j, none⟩) hlt).trans (hc j v hv)⟩
theorem At.alloc {α : Type} {sz : Nat} {cs : α → List Value} {w : World} {A : Option Addr} {l : List α} (h : At sz cs w A l) (ob : Obj) : At sz cs (w.alloc ob) A l := h.below (new_below _ _)

structure Mv where
  d : Int
  f : ByteArray
  t : ByteArray
  v : Int
def Mv.cs (x : Mv) : List Value := [.int .i64 x.d, .string x.f, .string x.t, .int .i64 x.v]
structure Rd where
  c : ByteArray
  d : Int
  lo : Int
  hi : Int
def Rd.cs (x : Rd) : List Value := [.string x.c, .int .i64 x.d, .int .i64 x.lo, .int .i64 x.hi]

def eqS (a b : ByteArray) : Bool := a.toList == b.toList

def endB (s : ByteArray) : Bool := s.toList.isEmpty || nameB s.data.toList
theorem isEnd_any (s : ByteArray) (w : World) (hs : s.size ≤ 9223372036854775807) :
    Calls Tryz.prog 99 #[.string s] w fun e w' => e = .returned (.bool (endB s)) ∧ Below w.heap.size w w' := by
  unfold endB
  by_cases he : s.toList = []
  · have he' : s.toList.isEmpty = true := by simp [he]
    have he'' := Lib.hid he
    clear he
    go_enter Tryz.func99, Tryz.ntmps99
    go_wp2
    go_ret
    exact ⟨by simp [he'], Below.refl _ _⟩
  · have he' : s.toList.isEmpty = false := by simpa using he
    have he'' := Lib.hid he
    clear he
    go_enter Tryz.func99, Tryz.ntmps99
    go_wp2_with (go_at_call 67; refine (isName_any _ _ hs).mono ?_; rintro e w' ⟨rfl, hb⟩)
    go_ret
    exact ⟨by simp [he'], hb⟩

def moveE (m : Mv) : Int :=
  firstE [unl (within m.d 0 100000) 2, unl (endB m.f && endB m.t) 4, unl (!eqS m.f m.t) 3, unl (within m.v 0 100000) 2]

set_option maxRecDepth 100000 in
set_option maxHeartbeats 400000 in
theorem moveErr_any (m : Mv) (w : World) (hs : m.f.size ≤ 9223372036854775807) (hs2 : m.t.size ≤ 9223372036854775807) :
    Calls Tryz.prog 80 #[.agg #[.int .i64 m.d, .string m.f, .string m.t, .int .i64 m.v]] w fun e w' => e = .returned (.int .i64 (moveE m)) ∧ Below w.heap.size w w' := by
  unfold moveE eqS
  obtain ⟨d, f, t, v⟩ := m
  dsimp only at *
  obtain ⟨b1, h1⟩ : ∃ b, endB f = b := ⟨_, rfl⟩
  cases b1
  all_goals
    have h1' := Lib.hid h1
    clear h1
    have e1 := isEnd_any f
    rw [h1'.out] at e1 ⊢
    have e1' := Lib.hid e1
    clear e1
    go_enter Tryz.func80, Tryz.ntmps80
    go_wp2
    have hgc := fun (x : Grew (w.alloc (.cells #[.int .i64 d, .string f, .string t, .int .i64 v] 64))) => x.cell
    refine wp_region_grew 25 (by kernel_rfl) (by kernel_rfl) ?_
    simp only [List.take_succ_cons, List.take_zero, List.drop_succ_cons, List.drop_zero]
    repeat (go_big_quiet_step (first
      | (go_at_call 68; exact Grew.call_same (isDay_any _ _))
      | (go_at_call 98; exact Grew.call_same (isVolume_any _ _))
      | (go_at_call 36; exact Grew.call_same (unless_any _ _ _))
      | (go_at_call 99; with_reducible exact Grew.call (e1'.out _ hs))
      | (go_at_call 99; with_reducible exact Grew.call (isEnd_any _ _ hs2))))
    refine wpQuiet_nil ?_
    intro x
    have hb := x.ok
    generalize x.val = W1 at hb ⊢
    clear x hgc
    go_wp2_with (go_at_call 33; refine (first4 _ _ _ _ _).mono ?_; rintro e w' ⟨rfl, rfl⟩)
    go_ret
    exact ⟨ret_int (by simp), via_alloc (via (new_below _ _) hb) _⟩

theorem dayOf_any (x : Rd) (w : World) :
    Calls Tryz.prog 78 #[.agg #[.string x.c, .int .i64 x.d, .int .i64 x.lo, .int .i64 x.hi]] w fun e w' => e = .returned (.int .i64 x.d) ∧ Below w.heap.size w w' := by
  go_enter Tryz.func78, Tryz.ntmps78
  go_wp2
  go_ret
  exact ⟨rfl, new_below _ _⟩
theorem dayOfMove_any (m : Mv) (w : World) :
    Calls Tryz.prog 81 #[.agg #[.int .i64 m.d, .string m.f, .string m.t, .int .i64 m.v]] w fun e w' => e = .returned (.int .i64 m.d) ∧ Below w.heap.size w w' := by
  go_enter Tryz.func81, Tryz.ntmps81
  go_wp2
  go_ret
  exact ⟨rfl, new_below _ _⟩
theorem nameErr_any (s : ByteArray) (w : World) (hs : s.size ≤ 9223372036854775807) :
    Calls Tryz.prog 45 #[.string s] w fun e w' => e = .returned (.int .i64 (unl (nameB s.data.toList) 4)) ∧ Below w.heap.size w w' := by
  go_enter Tryz.func45, Tryz.ntmps45
  go_wp2_with (first
    | (go_at_call 67; refine (isName_any _ _ hs).mono ?_; rintro e w' ⟨rfl, hb⟩)
    | (go_at_call 36; refine (unless_any _ _ _).mono ?_; rintro e w' ⟨rfl, rfl⟩))
  go_ret
  exact ⟨rfl, hb⟩
theorem dayErr_any (n : Int) (w : World) :
    Calls Tryz.prog 46 #[.int .i64 n] w fun e w' => e = .returned (.int .i64 (unl (within n 0 100000) 2)) ∧ w = w' := by
  go_enter Tryz.func46, Tryz.ntmps46
  go_wp2_with (first
    | (go_at_call 68; refine (isDay_any _ _).mono ?_; rintro e w' ⟨rfl, rfl⟩)
    | (go_at_call 36; refine (unless_any _ _ _).mono ?_; rintro e w' ⟨rfl, rfl⟩))
  go_ret
  exact ⟨rfl, rfl⟩
theorem readingErr_any (l0 l1 : Int) (A A2 : Option Addr) (n c n2 c2 : Nat) (i : Int) (w : World) (hn : n ≤ 4611686018427387904) :
    Calls Tryz.prog 59 #[.agg #[.int .i64 l0, .int .i64 l1, .slice A n c, .slice A2 n2 c2], .int .i64 i] w fun e w' => e = .returned (.int .i64 (unl (within i 0 (n - 1)) 6)) ∧ Below w.heap.size w w' := by
  go_enter Tryz.func59, Tryz.ntmps59
  go_wp2_with (first
    | (go_at_call 43; refine (within_any _ _ _ _).mono ?_; rintro e w' ⟨rfl, rfl⟩)
    | (go_at_call 36; refine (unless_any _ _ _).mono ?_; rintro e w' ⟨rfl, rfl⟩))
  go_ret
  exact ⟨rfl, new_below _ _⟩
end Go.Proofs

set_option linter.unusedSimpArgs false
set_option linter.unusedVariables false
namespace Go.Proofs
open Go.RowKit

/-! Nets -/
def netStep (cask : ByteArray) (lo hi : Int) (s : Int) (m : Mv) : Int :=
  if m.d ≤ lo then s else if hi < m.d then s else
    (if eqS m.t cask then s + m.v else s) - (if eqS m.f cask then m.v else 0)
def netL (l : List Mv) (cask : ByteArray) (lo hi : Int) : Int := l.foldl (netStep cask lo hi) 0
theorem netStep_bd (cask : ByteArray) (lo hi s : Int) (m : Mv) (B : Int) (h1 : -B ≤ s) (h2 : s ≤ B) (h3 : 0 ≤ m.v) (h4 : m.v ≤ 100000) : -(B + 100000) ≤ netStep cask lo hi s m ∧ netStep cask lo hi s m ≤ B + 100000 := by
  unfold netStep
  repeat' split
  all_goals omega
theorem net_bd (cask : ByteArray) (lo hi : Int) : ∀ (l : List Mv) (s B : Int), (∀ m ∈ l, 0 ≤ m.v ∧ m.v ≤ 100000) → -B ≤ s → s ≤ B →
    -(B + 100000 * l.length) ≤ l.foldl (netStep cask lo hi) s ∧ l.foldl (netStep cask lo hi) s ≤ B + 100000 * l.length
  | [], s, B, _, h1, h2 => by simp; omega
  | m :: l, s, B, hm, h1, h2 => by
    have hx := hm m (by simp)
    have hs := netStep_bd cask lo hi s m B h1 h2 hx.1 hx.2
    have := net_bd cask lo hi l (netStep cask lo hi s m) (B + 100000) (fun x hxl => hm x (by simp [hxl])) (by omega) (by omega)
    simp only [List.foldl_cons, List.length_cons]
    omega
theorem net_take (cask : ByteArray) (lo hi : Int) (l : List Mv) (k : Nat) (hm : ∀ m ∈ l, 0 ≤ m.v ∧ m.v ≤ 100000) (hl : l.length ≤ 60) :
    -6000000 ≤ (l.take k).foldl (netStep cask lo hi) 0 ∧ (l.take k).foldl (netStep cask lo hi) 0 ≤ 6000000 := by
  have h := net_bd cask lo hi (l.take k) 0 0 (fun m hmk => hm m (List.mem_of_mem_take hmk)) (by omega) (by omega)
  have := List.length_take_le k l
  have h2 : (l.take k).length ≤ l.length := by simp; omega
  omega
theorem fold_snoc {α β : Type} (f : β → α → β) (l : List α) (k : Nat) (x : α) (b : β) (h : l[k]? = some x) : (l.take (k + 1)).foldl f b = f ((l.take k).foldl f b) x := by
  have hk : k < l.length := (List.getElem?_eq_some_iff.1 h).1
  rw [List.take_succ_eq_append_getElem hk, List.foldl_append]
  have : l[k] = x := by rw [List.getElem?_eq_getElem hk] at h; exact Option.some.inj h
  simp [this]

set_option maxRecDepth 100000 in
set_option maxHeartbeats 1000000 in
theorem net_any (l0 l1 : Int) (sr : Value) (A : Option Addr) (l : List Mv) (cap : Nat) (cask : ByteArray) (lo hi : Int) (w : World)
    (hl : l.length ≤ 60) (hm : ∀ m ∈ l, 0 ≤ m.v ∧ m.v ≤ 100000) (hat : At 4 Mv.cs w A l) :
    Calls Tryz.prog 48 #[.agg #[.int .i64 l0, .int .i64 l1, sr, .slice A l.length cap], .string cask, .int .i64 lo, .int .i64 hi] w fun e w' => e = .returned (.int .i64 (netL l cask lo hi)) ∧ Below w.heap.size w w' := by
  have hm' := Lib.hid hm
  clear hm
  obtain ⟨n, hn⟩ : ∃ n, l.length = n := ⟨_, rfl⟩
  have hn' := Lib.hid hn
  rw [hn] at hl ⊢
  clear hn
  go_enter Tryz.func48, Tryz.ntmps48
  go_wp2
  go_loopw [9, 16] (fun s i wr => ∃ k : Nat, k ≤ n ∧ i = .int .i64 k ∧ s = .int .i64 ((l.take k).foldl (netStep cask lo hi) 0) ∧ Below (w.heap.size + 1) (w.alloc (.cells #[.int .i64 l0, .int .i64 l1, sr, .slice A n cap] 66)) wr) (fun _ i _ => n - (intOf i).toNat)
  case atStart => exact ⟨0, Nat.zero_le _, rfl, by simp, Below.refl _ _⟩
  case round =>
    obtain ⟨k, hk, rfl, rfl, hb⟩ := hrel
    have hbw : Below w.heap.size w wr := (new_below _ _).trans (hb.mono (by omega))
    by_cases hlt : k < n
    · have hkl : k < l.length := by rw [hn'.out]; exact hlt
      have hx : l[k]? = some l[k] := List.getElem?_eq_getElem hkl
      obtain ⟨m, hme⟩ : ∃ m, l[k] = m := ⟨_, rfl⟩
      rw [hme] at hx
      obtain ⟨b, o, rfl, hbl, hc⟩ := (hat.below hbw) k m hx
      have hmv := hm'.out m (List.mem_of_getElem? hx)
      have hsn := Lib.hid (fold_snoc (netStep cask lo hi) l k m 0 hx)
      have hbd := net_take cask lo hi l k hm'.out (by rw [hn'.out]; exact hl)
      obtain ⟨S, hS⟩ : ∃ S, (l.take k).foldl (netStep cask lo hi) 0 = S := ⟨_, rfl⟩
      rw [hS] at hbd hsn ⊢
      obtain ⟨d, f, t, v⟩ := m
      have c0 := hc 0 _ rfl
      have c1 := hc 1 _ rfl
      have c2 := hc 2 _ rfl
      have c3 := hc 3 _ rfl
      dsimp only at c0 c1 c2 c3 hmv
      obtain ⟨hv1, hv2⟩ := hmv
      obtain ⟨hb1, hb2⟩ := hbd
      simp only [Nat.add_zero] at c0
      clear hx hme hS hc hat
      go_wp2
      all_goals
        go_roundw
        case rel => exact ⟨k + 1, by omega, by go_num, by
          rw [hsn.out]; congr 1; unfold netStep eqS; dsimp only
          repeat' split
          all_goals first | omega | simp_all, hb.alloc (by have := hb.size; simpa using this) _⟩
        case measure => simp [intOf]; omega
    · have hkk : k = n := by omega
      subst hkk
      go_wp2
      go_ret
      exact ⟨ret_int (by rw [List.take_of_length_le (by rw [hn'.out]; exact Nat.le_refl _)]; rfl), hbw⟩

/-! What a gauging allows -/
def allowsLo (l0 l1 : Int) (l : List Mv) (x : Rd) (day : Int) : Int :=
  if 0 ≤ day - x.d then 1000 * (x.lo + netL l x.c x.d day) - l1 * (day - x.d) else 1000 * (x.lo - netL l x.c day x.d) + l0 * (x.d - day)
def allowsHi (l0 l1 : Int) (l : List Mv) (x : Rd) (day : Int) : Int :=
  if 0 ≤ day - x.d then 1000 * (x.hi + netL l x.c x.d day) - l0 * (day - x.d) else 1000 * (x.hi - netL l x.c day x.d) + l1 * (x.d - day)
theorem netL_bd (cask : ByteArray) (lo hi : Int) (l : List Mv) (hm : ∀ m ∈ l, 0 ≤ m.v ∧ m.v ≤ 100000) (hl : l.length ≤ 60) : -6000000 ≤ netL l cask lo hi ∧ netL l cask lo hi ≤ 6000000 := by
  have := net_take cask lo hi l l.length hm hl
  rwa [List.take_length] at this
theorem mul_bd (a b : Int) (h1 : 0 ≤ a) (h2 : a ≤ 100000) (h3 : 0 ≤ b) (h4 : b ≤ 100000) : 0 ≤ a * b ∧ a * b ≤ 10000000000 := by
  constructor
  · exact Int.mul_nonneg h1 h3
  · have := Int.mul_le_mul h2 h4 h3 (by omega : (0 : Int) ≤ 100000)
    omega

set_option maxRecDepth 100000 in
set_option maxHeartbeats 1000000 in
theorem allows_any (l0 l1 : Int) (sr : Value) (A : Option Addr) (l : List Mv) (cap : Nat) (x : Rd) (day : Int) (w : World)
    (hl : l.length ≤ 60) (hm : ∀ m ∈ l, 0 ≤ m.v ∧ m.v ≤ 100000) (hat : At 4 Mv.cs w A l)
    (h0 : 0 ≤ l0) (h0' : l0 ≤ 100000) (h1 : 0 ≤ l1) (h1' : l1 ≤ 100000) (hd : 0 ≤ day) (hd' : day ≤ 100000)
    (hx : 0 ≤ x.d ∧ x.d ≤ 100000) (hlo : 0 ≤ x.lo ∧ x.lo ≤ 100000) (hhi : 0 ≤ x.hi ∧ x.hi ≤ 100000) :
    Calls Tryz.prog 69 #[.agg #[.int .i64 l0, .int .i64 l1, sr, .slice A l.length cap], .agg #[.string x.c, .int .i64 x.d, .int .i64 x.lo, .int .i64 x.hi], .int .i64 day] w fun e w' =>
      e = .returned (.agg #[.int .i64 (allowsLo l0 l1 l x day), .int .i64 (allowsHi l0 l1 l x day)]) ∧ Below w.heap.size w w' := by
  obtain ⟨c, d, lo, hi⟩ := x
  dsimp only at *
  obtain ⟨hx1, hx2⟩ := hx
  obtain ⟨hlo1, hlo2⟩ := hlo
  obtain ⟨hhi1, hhi2⟩ := hhi
  unfold allowsLo allowsHi
  dsimp only
  have nb := fun lo hi => netL_bd c lo hi l hm hl
  by_cases hp : 0 ≤ day - d
  · have hc := fun W hw => net_any l0 l1 sr A l cap c d day W hl hm (At.below hat hw)
    have hb := nb d day
    generalize netL l c d day = N at hc hb ⊢
    rw [if_pos hp, if_pos hp]
    have hc' := Lib.hid hc
    clear hc nb hm hat
    obtain ⟨hb1, hb2⟩ := hb
    obtain ⟨m1a, m1b⟩ := mul_bd l1 (day - d) (by omega) (by omega) (by omega) (by omega)
    obtain ⟨m0a, m0b⟩ := mul_bd l0 (day - d) (by omega) (by omega) (by omega) (by omega)
    go_enter Tryz.func69, Tryz.ntmps69
    go_wp2_with (go_at_call 48; refine (hc'.out _ ?_).mono ?_; (· go_grown); rintro e w1 ⟨rfl, hb⟩; have hcc := gcell hb; have hff := gfrozen hb; have hsz : w.heap.size + 2 < w1.heap.size := (by have := hb.size; simp at this; omega))
    exact bodyPost_ret (v := .agg #[.int .i64 (1000 * (lo + N) - l1 * (day - d)), .int .i64 (1000 * (hi + N) - l0 * (day - d))]) (by simp [results, Tryz.results69, go_sem, hcc, hff, hsz]) rfl
      ⟨rfl, by have hb' : Below w.heap.size w w1 := via (by go_grown) hb
               go_grown⟩
  · have hc := fun W hw => net_any l0 l1 sr A l cap c day d W hl hm (At.below hat hw)
    have hb := nb day d
    generalize netL l c day d = N at hc hb ⊢
    rw [if_neg hp, if_neg hp]
    have hc' := Lib.hid hc
    clear hc nb hm hat
    obtain ⟨hb1, hb2⟩ := hb
    obtain ⟨m1a, m1b⟩ := mul_bd l1 (d - day) (by omega) (by omega) (by omega) (by omega)
    obtain ⟨m0a, m0b⟩ := mul_bd l0 (d - day) (by omega) (by omega) (by omega) (by omega)
    go_enter Tryz.func69, Tryz.ntmps69
    go_wp2_with fail
    obtain ⟨W0, hW0⟩ : ∃ W0, W0 = ((w.alloc (.cells #[.int .i64 l0, .int .i64 l1, sr, .slice A l.length cap] 66)).alloc (.cells #[.string c, .int .i64 d, .int .i64 lo, .int .i64 hi] 62)).alloc (.cells #[.int .i64 0, .int .i64 0] 23) := ⟨_, rfl⟩
    have hs0 : W0.heap.size = w.heap.size + 3 := by rw [hW0]; simp
    have hbw : Below w.heap.size w W0 := by rw [hW0]; go_grown
    have hgc := fun (x : Grew W0) => x.cell
    have hcx := Lib.hid fun (x : Grew W0) => hc'.out x.val (via hbw x.ok)
    have hbw' := Lib.hid fun (x : Grew W0) => via hbw x.ok
    have hsx := Lib.hid fun (x : Grew W0) => x.ok.size
    rw [hs0] at hsx
    clear hs0
    subst hW0
    refine wp_region_grew_all (by kernel_rfl) (by kernel_rfl) ?_
    repeat (go_big_quiet_step ((go_at_call 48; exact Grew.call (hcx.out _))))
    refine wpQuiet_nil ?_
    intro x
    have hb := x.ok
    have hbx := hbw'.out x
    have hsz := hsx.out x
    generalize x.val = w1 at hb hbx hsz ⊢
    clear x hgc hcx hbw' hsx hbw
    have hcc := gcell hb
    have hff := gfrozen hb
    have hsz' : w.heap.size + 2 < w1.heap.size := by omega
    go_wp2
    exact bodyPost_ret (v := .agg #[.int .i64 (1000 * (lo - N) + l0 * (d - day)), .int .i64 (1000 * (hi - N) + l1 * (d - day))]) (by simp [results, Tryz.results69, go_sem, hcc, hff, hsz]) rfl
      ⟨rfl, by go_grown⟩
end Go.Proofs
