import Derived.Test.YtceiinlmblgdoaaGreatDoorE
set_option linter.unusedSimpArgs false
set_option linter.unusedVariables false
namespace Go.Proofs
open Go.RowKit

/-! Nets -/
def netStep (cask : ByteArray) (lo hi : Int) (s : Int) (m : Mv) : Int :=
  if m.d ≤ lo then s else if hi < m.d then s else
    (if eqS m.t cask then s + m.v else s) - (if eqS m.f cask then m.v else 0)
def netL (l : List Mv) (cask : ByteArray) (lo hi : Int) : Int := l.foldl (netStep cask lo hi) 0
theorem netStep_bd (cask : ByteArray) (lo hi s : Int) (m : Mv) (B : Int) (h1 : -B ≤ s) (h2 : s ≤ B) (h3 : 0 ≤ m.v) (h4 : m.v ≤ 100000) : -(B + 100000) ≤ netStep cask lo hi s m ∧ netStep cask lo hi s m ≤ B + 100000 := by
  unfold netStep
  repeat' split
  all_goals omega
theorem net_bd (cask : ByteArray) (lo hi : Int) : ∀ (l : List Mv) (s B : Int), (∀ m ∈ l, 0 ≤ m.v ∧ m.v ≤ 100000) → -B ≤ s → s ≤ B →
    -(B + 100000 * l.length) ≤ l.foldl (netStep cask lo hi) s ∧ l.foldl (netStep cask lo hi) s ≤ B + 100000 * l.length
  | [], s, B, _, h1, h2 => by simp; omega
  | m :: l, s, B, hm, h1, h2 => by
    have hx := hm m (by simp)
    have hs := netStep_bd cask lo hi s m B h1 h2 hx.1 hx.2
    have := net_bd cask lo hi l (netStep cask lo hi s m) (B + 100000) (fun x hxl => hm x (by simp [hxl])) (by omega) (by omega)
    simp only [List.foldl_cons, List.length_cons]
    omega
theorem net_take (cask : ByteArray) (lo hi : Int) (l : List Mv) (k : Nat) (hm : ∀ m ∈ l, 0 ≤ m.v ∧ m.v ≤ 100000) (hl : l.length ≤ 60) :
    -6000000 ≤ (l.take k).foldl (netStep cask lo hi) 0 ∧ (l.take k).foldl (netStep cask lo hi) 0 ≤ 6000000 := by
  have h := net_bd cask lo hi (l.take k) 0 0 (fun m hmk => hm m (List.mem_of_mem_take hmk)) (by omega) (by omega)
  have := List.length_take_le k l
  have h2 : (l.take k).length ≤ l.length := by simp; omega
  omega
theorem fold_snoc {α β : Type} (f : β → α → β) (l : List α) (k : Nat) (x : α) (b : β) (h : l[k]? = some x) : (l.take (k + 1)).foldl f b = f ((l.take k).foldl f b) x := by
  have hk : k < l.length := (List.getElem?_eq_some_iff.1 h).1
  rw [List.take_succ_eq_append_getElem hk, List.foldl_append]
  have : l[k] = x := by rw [List.getElem?_eq_getElem hk] at h; exact Option.some.inj h
  simp [this]

set_option maxRecDepth 100000 in
set_option maxHeartbeats 1000000 in
theorem net_any (l0 l1 : Int) (sr : Value) (A : Option Addr) (l : List Mv) (cap : Nat) (cask : ByteArray) (lo hi : Int) (w : World)
    (hl : l.length ≤ 60) (hm : ∀ m ∈ l, 0 ≤ m.v ∧ m.v ≤ 100000) (hat : At 4 Mv.cs w A l) :
    Calls Tryz.prog 37 #[.agg #[.int .i64 l0, .int .i64 l1, sr, .slice A l.length cap], .string cask, .int .i64 lo, .int .i64 hi] w fun e w' => e = .returned (.int .i64 (netL l cask lo hi)) ∧ Below w.heap.size w w' := by
  have hm' := Lib.hid hm
  clear hm
  obtain ⟨n, hn⟩ : ∃ n, l.length = n := ⟨_, rfl⟩
  have hn' := Lib.hid hn
  rw [hn] at hl ⊢
  clear hn
  go_enter Tryz.func37, Tryz.ntmps37
  go_wp2
  go_loopw [9, 16] (fun s i wr => ∃ k : Nat, k ≤ n ∧ i = .int .i64 k ∧ s = .int .i64 ((l.take k).foldl (netStep cask lo hi) 0) ∧ Below (w.heap.size + 1) (w.alloc (.cells #[.int .i64 l0, .int .i64 l1, sr, .slice A n cap] 75)) wr) (fun _ i _ => n - (intOf i).toNat)
  case atStart => exact ⟨0, Nat.zero_le _, rfl, by simp, Below.refl _ _⟩
  case round =>
    obtain ⟨k, hk, rfl, rfl, hb⟩ := hrel
    have hbw : Below w.heap.size w wr := (new_below _ _).trans (hb.mono (by omega))
    by_cases hlt : k < n
    · have hkl : k < l.length := by rw [hn'.out]; exact hlt
      have hx : l[k]? = some l[k] := List.getElem?_eq_getElem hkl
      obtain ⟨m, hme⟩ : ∃ m, l[k] = m := ⟨_, rfl⟩
      rw [hme] at hx
      obtain ⟨b, o, rfl, hbl, hc⟩ := (hat.below hbw) k m hx
      have hmv := hm'.out m (List.mem_of_getElem? hx)
      have hsn := Lib.hid (fold_snoc (netStep cask lo hi) l k m 0 hx)
      have hbd := net_take cask lo hi l k hm'.out (by rw [hn'.out]; exact hl)
      obtain ⟨S, hS⟩ : ∃ S, (l.take k).foldl (netStep cask lo hi) 0 = S := ⟨_, rfl⟩
      rw [hS] at hbd hsn ⊢
      obtain ⟨d, f, t, v⟩ := m
      have c0 := hc 0 _ rfl
      have c1 := hc 1 _ rfl
      have c2 := hc 2 _ rfl
      have c3 := hc 3 _ rfl
      dsimp only at c0 c1 c2 c3 hmv
      obtain ⟨hv1, hv2⟩ := hmv
      obtain ⟨hb1, hb2⟩ := hbd
      simp only [Nat.add_zero] at c0
      clear hx hme hS hc hat
      go_wp2
      all_goals
        go_roundw
        case rel => exact ⟨k + 1, by omega, by go_num, by
          rw [hsn.out]; congr 1; unfold netStep eqS; dsimp only
          repeat' split
          all_goals first | omega | simp_all, hb.alloc (by have := hb.size; simpa using this) _⟩
        case measure => simp [intOf]; omega
    · have hkk : k = n := by omega
      subst hkk
      go_wp2
      go_ret
      exact ⟨ret_int (by rw [List.take_of_length_le (by rw [hn'.out]; exact Nat.le_refl _)]; rfl), hbw⟩

/-! What a gauging allows -/
def allowsLo (l0 l1 : Int) (l : List Mv) (x : Rd) (day : Int) : Int :=
  if 0 ≤ day - x.d then 1000 * (x.lo + netL l x.c x.d day) - l1 * (day - x.d) else 1000 * (x.lo - netL l x.c day x.d) + l0 * (x.d - day)
def allowsHi (l0 l1 : Int) (l : List Mv) (x : Rd) (day : Int) : Int :=
  if 0 ≤ day - x.d then 1000 * (x.hi + netL l x.c x.d day) - l0 * (day - x.d) else 1000 * (x.hi - netL l x.c day x.d) + l1 * (x.d - day)
theorem netL_bd (cask : ByteArray) (lo hi : Int) (l : List Mv) (hm : ∀ m ∈ l, 0 ≤ m.v ∧ m.v ≤ 100000) (hl : l.length ≤ 60) : -6000000 ≤ netL l cask lo hi ∧ netL l cask lo hi ≤ 6000000 := by
  have := net_take cask lo hi l l.length hm hl
  rwa [List.take_length] at this
theorem mul_bd (a b : Int) (h1 : 0 ≤ a) (h2 : a ≤ 100000) (h3 : 0 ≤ b) (h4 : b ≤ 100000) : 0 ≤ a * b ∧ a * b ≤ 10000000000 := by
  constructor
  · exact Int.mul_nonneg h1 h3
  · have := Int.mul_le_mul h2 h4 h3 (by omega : (0 : Int) ≤ 100000)
    omega

set_option maxRecDepth 100000 in
set_option maxHeartbeats 1000000 in
theorem allows_any (l0 l1 : Int) (sr : Value) (A : Option Addr) (l : List Mv) (cap : Nat) (x : Rd) (day : Int) (w : World)
    (hl : l.length ≤ 60) (hm : ∀ m ∈ l, 0 ≤ m.v ∧ m.v ≤ 100000) (hat : At 4 Mv.cs w A l)
    (h0 : 0 ≤ l0) (h0' : l0 ≤ 100000) (h1 : 0 ≤ l1) (h1' : l1 ≤ 100000) (hd : 0 ≤ day) (hd' : day ≤ 100000)
    (hx : 0 ≤ x.d ∧ x.d ≤ 100000) (hlo : 0 ≤ x.lo ∧ x.lo ≤ 100000) (hhi : 0 ≤ x.hi ∧ x.hi ≤ 100000) :
    Calls Tryz.prog 58 #[.agg #[.int .i64 l0, .int .i64 l1, sr, .slice A l.length cap], .agg #[.string x.c, .int .i64 x.d, .int .i64 x.lo, .int .i64 x.hi], .int .i64 day] w fun e w' =>
      e = .returned (.agg #[.int .i64 (allowsLo l0 l1 l x day), .int .i64 (allowsHi l0 l1 l x day)]) ∧ Below w.heap.size w w' := by
  obtain ⟨c, d, lo, hi⟩ := x
  dsimp only at *
  obtain ⟨hx1, hx2⟩ := hx
  obtain ⟨hlo1, hlo2⟩ := hlo
  obtain ⟨hhi1, hhi2⟩ := hhi
  unfold allowsLo allowsHi
  dsimp only
  have nb := fun lo hi => netL_bd c lo hi l hm hl
  by_cases hp : 0 ≤ day - d
  · have hc := fun W hw => net_any l0 l1 sr A l cap c d day W hl hm (At.below hat hw)
    have hb := nb d day
    generalize netL l c d day = N at hc hb ⊢
    rw [if_pos hp, if_pos hp]
    have hc' := Lib.hid hc
    clear hc nb hm hat
    obtain ⟨hb1, hb2⟩ := hb
    obtain ⟨m1a, m1b⟩ := mul_bd l1 (day - d) (by omega) (by omega) (by omega) (by omega)
    obtain ⟨m0a, m0b⟩ := mul_bd l0 (day - d) (by omega) (by omega) (by omega) (by omega)
    go_enter Tryz.func58, Tryz.ntmps58
    go_wp2_with (go_at_call 37; refine (hc'.out _ ?_).mono ?_; (· go_grown); rintro e w1 ⟨rfl, hb⟩; have hcc := gcell hb; have hff := gfrozen hb; have hsz : w.heap.size + 2 < w1.heap.size := (by have := hb.size; simp at this; omega))
    exact bodyPost_ret (v := .agg #[.int .i64 (1000 * (lo + N) - l1 * (day - d)), .int .i64 (1000 * (hi + N) - l0 * (day - d))]) (by simp [results, Tryz.results58, go_sem, hcc, hff, hsz]) rfl
      ⟨rfl, by have hb' : Below w.heap.size w w1 := via (by go_grown) hb
               go_grown⟩
  · have hc := fun W hw => net_any l0 l1 sr A l cap c day d W hl hm (At.below hat hw)
    have hb := nb day d
    generalize netL l c day d = N at hc hb ⊢
    rw [if_neg hp, if_neg hp]
    have hc' := Lib.hid hc
    clear hc nb hm hat
    obtain ⟨hb1, hb2⟩ := hb
    obtain ⟨m1a, m1b⟩ := mul_bd l1 (d - day) (by omega) (by omega) (by omega) (by omega)
    obtain ⟨m0a, m0b⟩ := mul_bd l0 (d - day) (by omega) (by omega) (by omega) (by omega)
    go_enter Tryz.func58, Tryz.ntmps58
    go_wp2_with fail
    obtain ⟨W0, hW0⟩ : ∃ W0, W0 = ((w.alloc (.cells #[.int .i64 l0, .int .i64 l1, sr, .slice A l.length cap] 75)).alloc (.cells #[.string c, .int .i64 d, .int .i64 lo, .int .i64 hi] 25)).alloc (.cells #[.int .i64 0, .int .i64 0] 23) := ⟨_, rfl⟩
    have hs0 : W0.heap.size = w.heap.size + 3 := by rw [hW0]; simp
    have hbw : Below w.heap.size w W0 := by rw [hW0]; go_grown
    have hgc := fun (x : Grew W0) => x.cell
    have hcx := Lib.hid fun (x : Grew W0) => hc'.out x.val (via hbw x.ok)
    have hbw' := Lib.hid fun (x : Grew W0) => via hbw x.ok
    have hsx := Lib.hid fun (x : Grew W0) => x.ok.size
    rw [hs0] at hsx
    clear hs0
    subst hW0
    refine wp_region_grew_all (by kernel_rfl) (by kernel_rfl) ?_
    repeat (go_big_quiet_step ((go_at_call 37; exact Grew.call (hcx.out _))))
    refine wpQuiet_nil ?_
    intro x
    have hb := x.ok
    have hbx := hbw'.out x
    have hsz := hsx.out x
    generalize x.val = w1 at hb hbx hsz ⊢
    clear x hgc hcx hbw' hsx hbw
    have hcc := gcell hb
    have hff := gfrozen hb
    have hsz' : w.heap.size + 2 < w1.heap.size := by omega
    go_wp2
    exact bodyPost_ret (v := .agg #[.int .i64 (1000 * (lo - N) + l0 * (d - day)), .int .i64 (1000 * (hi - N) + l1 * (d - day))]) (by simp [results, Tryz.results58, go_sem, hcc, hff, hsz]) rfl
      ⟨rfl, by go_grown⟩
end Go.Proofs
