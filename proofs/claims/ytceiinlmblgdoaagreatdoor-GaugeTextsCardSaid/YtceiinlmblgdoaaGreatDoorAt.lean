import Derived.Test.YtceiinlmblgdoaaGreatDoorFm
set_option linter.unusedSimpArgs false
set_option linter.unusedVariables false
namespace Go.Proofs
open Go.RowKit

theorem split_len (sep : ByteArray) (h1 : 1 ≤ sep.size) : ∀ (n : Nat) (s : ByteArray), s.size ≤ n → (Lib.splitB sep 0 (Lib.countB s sep) s).length = Lib.countB s sep + 1 := by
  intro n
  induction n with
  | zero =>
    intro s hs
    rcases Lib.index_spec s.data.toList sep.data.toList with ⟨h, -⟩ | ⟨i, h, hi, -, -⟩
    · rw [Lib.countB_miss s sep h]; rfl
    · have hr := Lib.index_room s.data.toList sep.data.toList (by omega)
      have e1 : s.data.toList.length = s.size := by simp
      have e2 : sep.data.toList.length = sep.size := by simp
      omega
  | succ n ih =>
    intro s hs
    rcases Lib.index_spec s.data.toList sep.data.toList with ⟨h, -⟩ | ⟨i, h, hi, -, -⟩
    · rw [Lib.countB_miss s sep h]; rfl
    · have hr := Lib.index_room s.data.toList sep.data.toList (by omega)
      have e1 : s.data.toList.length = s.size := by simp
      have e2 : sep.data.toList.length = sep.size := by simp
      rw [Lib.countB_hit s sep i h1 h, Nat.add_comm 1, Lib.splitB_hit sep 0 _ s i h, List.length_cons, ih _ (by rw [ByteArray.size_extract]; omega)]
theorem map_bs {l : List ByteArray} {m : List (List UInt8)} (h : l.map (·.data.toList) = m) : l = m.map bs := by
  subst h
  rw [List.map_map, show (bs ∘ fun x : ByteArray => x.data.toList) = id from funext fun x => bs_eta x, List.map_id]
theorem split_pieces (s : ByteArray) : Lib.splitB ⟨#[32]⟩ 0 (Lib.countB s ⟨#[32]⟩) s = (cutL s.data.toList).map bs := by
  refine map_bs ?_
  rw [Lib.splitB_data]
  exact split_cut _ _ (Nat.le_refl _)
theorem split_any (s : ByteArray) (w : World) (hs : s.size ≤ 1000) (ht : Tabs w) :
    Calls Tryz.prog 18 #[.string s, .string ⟨#[32]⟩] w fun e w' => (∃ A c, e = .returned (.slice A (cutL s.data.toList).length c) ∧ At 1 Sc w' A (cutL s.data.toList)) ∧ Below w.heap.size w w' := by
  obtain ⟨m, hm⟩ := ht.mx
  refine (Tryz.strings_Split s ⟨#[32]⟩ m w (by omega) hm (by decide)).mono ?_
  rintro e w' ⟨rfl, rfl⟩
  have hl := split_len ⟨#[32]⟩ (by decide) s.size s (Nat.le_refl _)
  rw [split_pieces, List.length_map] at hl
  rw [split_pieces, ← hl]
  refine ⟨⟨_, _, rfl, ?_⟩, new_below _ _⟩
  intro k x hx
  refine ⟨w.heap.size, 0, rfl, by simp, ?_⟩
  intro j v hv
  match j, hv with
  | 0, rfl =>
    rw [World.cell?_alloc_at _ _ _ _ rfl]
    simp [hx]
theorem atoi_ok (b : List UInt8) (n : Int) (w : World) (hb : b.length ≤ 1000) (h : Lib.atoiAll b = .ok n) :
    Calls Tryz.prog 19 #[.string (bs b)] w fun e w' => e = .returned (.tuple #[.int .i64 n, .nilIface]) ∧ Below w.heap.size w w' := by
  refine (Tryz.strconv_Atoi_ok (bs b) (by rw [bs_size]; omega) n (by rw [bs_data]; exact h) w).mono ?_
  rintro e w' ⟨rfl, hw⟩
  refine ⟨rfl, ?_⟩
  rcases hw with rfl | ⟨t, rfl⟩
  · exact Below.refl _ _
  · exact ⟨rfl, rfl, rfl, by rw [Lib.bytesWorld_size]; omega, fun k hk => Lib.bytesWorld_at_old w 5 t k hk⟩
theorem atoi_bad (b : List UInt8) (w : World) (hb : b.length ≤ 1000) (h : ∀ n, Lib.atoiAll b ≠ .ok n) (ht : Tabs w) :
    Calls Tryz.prog 19 #[.string (bs b)] w fun e w' => (∃ (m : Int) (N : Nat), e = .returned (.tuple #[.int .i64 m, .iface 123 (.pointer (some ⟨N, 0, none⟩))])) ∧ Below w.heap.size w w' := by
  obtain ⟨ev, hev, hk⟩ := ht.syn
  obtain ⟨ev2, hev2, hk2⟩ := ht.rng
  rcases ha : Lib.atoiAll b with n | _ | _
  · exact (h n ha).elim
  · have hc : Calls Tryz.prog 19 #[.string (bs b)] w fun e w' => ∃ N, e = .returned (.tuple #[.int .i64 (0), .iface 123 (.pointer (some ⟨N, 0, none⟩))]) ∧ w.heap.size ≤ N ∧ w'.heap[N]? = some (.cells #[.string ⟨#[65, 116, 111, 105]⟩, .string (bs b), ev] 150 (0, 0)) ∧ Below w.heap.size w w' :=
      Any.strconv_Atoi_syntax Tryz.laysC172 (bs b) (by rw [bs_size]; omega) (by rw [bs_data]; exact ha) ev w hev hk
    refine hc.mono ?_
    rintro e w' ⟨N, rfl, -, -, hb⟩
    exact ⟨⟨_, N, rfl⟩, hb⟩
  · refine (Tryz.strconv_Atoi_range (bs b) (by rw [bs_size]; omega) (by rw [bs_data]; exact ha) ev2 w hev2 hk2).mono ?_
    rintro e w' ⟨N, rfl, -, -, hb⟩
    exact ⟨⟨_, N, rfl⟩, hb⟩
theorem trim_any (b : List UInt8) (w : World) : Calls Tryz.prog 20 #[.string (bs b), .string ⟨#[45]⟩] w fun e w' => e = .returned (.string (bs (magL b))) ∧ w = w' := by
  refine (Tryz.strings_TrimPrefix (bs b) ⟨#[45]⟩ w).mono ?_
  rintro e w' ⟨rfl, rfl⟩
  refine ⟨?_, rfl⟩
  rw [bs_data]
  show _ = Ending.returned (.string (bs (magL b)))
  rw [← trim_mag]
  rfl
end Go.Proofs
